import Derived.Test.YthoealembhkaoaaGreatDoorFm10
import Derived.Lib.OthersKept
import Derived.Deep.DeepMust
import Derived.Lib.AppendStr
import Derived.Lib.MapLaws
import Derived.Lib.ValidLaws
namespace Go.Proofs.YthoealembhkaoaaGreatDoor
open Go.RowKit
namespace Sy
set_option linter.unusedVariables false

/-- A character's bytes. -/
def runeB (r : Int) : List UInt8 := (Utf8.encode r).data.toList
/-- What is laid for a character that stays. -/
def laidR (fold : Bool) (r : Int) : Int := if fold then foldR r else r
/-- The characters of a text, mapped: what has been laid so far, what is left. -/
def mapGo (fold : Bool) : Nat → List UInt8 → List UInt8 → Option (List UInt8)
  | 0, acc, _ => some acc
  | n + 1, acc, l =>
    if l = [] then some acc else
    if (mapR ((Lib.decodeL l).1 : Int)).2.2 = true then none
    else if (mapR ((Lib.decodeL l).1 : Int)).2.1 = false ∨ ((mapR ((Lib.decodeL l).1 : Int)).1 = 32 ∧ acc.getLast? = some 32) then mapGo fold n acc (l.drop (Lib.decodeL l).2)
    else mapGo fold n (acc ++ runeB (laidR fold (mapR ((Lib.decodeL l).1 : Int)).1)) (l.drop (Lib.decodeL l).2)
/-- A text's characters, mapped. -/
def mapped (fold : Bool) (l : List UInt8) : Option (List UInt8) := if Lib.validD l then mapGo fold l.length [] l else none
def mappedV : Option (List UInt8) → Value
  | some l => .tuple #[strV l, .int .i64 0]
  | none => .tuple #[.string ⟨#[]⟩, .int .i64 10]

theorem nil_or_snoc {α : Type} (l : List α) : l = [] ∨ ∃ l' x, l = l' ++ [x] := by
  rcases List.eq_nil_or_concat l with h | ⟨l', x, h⟩
  · exact .inl h
  · exact .inr ⟨l', x, by rw [h]; simp⟩
theorem runeB_le (r : Int) : (Utf8.encode r).size ≤ 4 := encode_size_le r
theorem foldR_valid {r : Int} (h : Lib.validRune r = true) : Lib.validRune (foldR r) = true := by
  simp only [Lib.validRune, decide_eq_true_eq] at h ⊢
  unfold foldR
  (repeat' split) <;> omega
theorem mapR_stays {r : Int} (h : (mapR r).2.2 = false) (h0 : 0 ≤ r) (h1 : (mapR r).2.1 = true) : Lib.validRune (mapR r).1 = true ∧ 0 ≤ (mapR r).1 ∧ (mapR r).1 ≤ 0x10FFFF := by
  unfold mapR at h h1 ⊢
  split at h <;> rename_i hb
  · simp [hb, Lib.validRune]
  · simp only [hb] at h1 ⊢
    split at h <;> rename_i hg
    · simp [hg] at h1
    · simp only [hg] at h1 ⊢
      split at h <;> rename_i hf
      · simp at h
      · simp only [hf]
        simp only [refused, decide_eq_true_eq] at hf
        simp only [Lib.validRune, decide_eq_true_eq]
        simp
        omega
/-- The iterator's block holds no cells: a row of the call's own lies elsewhere. -/
theorem iter_ne {w : World} {B e : Nat} {size n : Nat} {v : Value} {xs : List Value} {k : Nat} {s : ByteArray} {pos : Nat} (h : w.ownsRow B e size v n xs) (hk : w.heap[k]? = some (.stringIter s pos)) : v.ownBlock ≠ some k := by
  rcases h.2 with ⟨rfl, _⟩ | ⟨g, cap, cur, rfl, hb, hg, rest⟩
  · simp [Value.ownBlock]
  · intro e
    simp only [Value.ownBlock, Option.some.injEq] at e
    subst e
    rw [hk] at hg
    cases hg
theorem own_iter {w : World} {B e : Nat} {size n : Nat} {v : Value} {xs : List Value} {k : Nat} {s : ByteArray} {pos : Nat} (h : w.ownsRow B e size v n xs) (hk : w.heap[k]? = some (.stringIter s pos)) (pos' : Nat) : (w.iterAt k s pos').ownsRow B e size v n xs := by
  refine h.kept (row := some k) ⟨rfl, rfl, rfl, by rw [Lib.iterAt_size]; exact Nat.le_refl _, fun i hi hne => Lib.iterAt_other w k i s pos' (fun e => hne (by rw [e]))⟩ (.inr ?_)
  exact iter_ne h hk
theorem convert_nil (W : World) : (convert 88 9 (.slice none 0 0)).run Tryz.prog W = .ok (.string ⟨#[]⟩) W := by
  rw [run_convert_bytes_nil W 88 5 Tryz.underlying88 Tryz.underlying5 0 0 9 Tryz.underlying9]
  rfl
theorem decode_len (s : ByteArray) (pos : Nat) (h : pos < s.size) : 1 ≤ (Utf8.decode s pos).2 ∧ pos + (Utf8.decode s pos).2 ≤ s.size := by
  refine ⟨Lib.width_pos s pos, ?_⟩
  have h1 := Lib.decodeL_le (rest s pos) (by rw [rest_lt h]; simp)
  rw [show rest s pos = s.data.toList.drop pos from rfl, Lib.decodeL_drop] at h1
  simp at h1
  have h2 : s.data.toList.length = s.size := by simp
  simp at h2
  omega

set_option maxRecDepth 100000 in
set_option maxHeartbeats 4000000 in
theorem mapped_calls (s : ByteArray) (fold : Bool) (w : World) (hs : s.size ≤ 4294967296) (he : Env w) :
    Calls Tryz.prog 61 #[.string s, .bool fold] w fun e w' => e = .returned (mappedV (mapped fold s.data.toList)) ∧ Below w.heap.size w w' := by
  obtain ⟨i0, hi0, hz0, hz1, hz2⟩ := info_parts info5
  have htx := text_calls s w (by omega) he
  cases hval : Lib.validD s.data.toList with
  | false =>
    rw [hval] at htx
    have hm : mapped fold s.data.toList = none := by simp [mapped, hval]
    rw [hm]
    clear hm
    go_enter Tryz.func61, Tryz.ntmps61
    go_wp2_with fail
    refine htx.mono ?_
    rintro e w1 ⟨rfl, hb⟩
    clear htx
    go_wp2_with fail
    go_ret2
    exact ⟨rfl, hb⟩
  | true =>
    rw [hval] at htx
    obtain ⟨r, hr⟩ : ∃ r, mapped fold s.data.toList = r := ⟨_, rfl⟩
    rw [hr]
    have Hr : Hid (mapGo fold s.size [] s.data.toList = r) := by
      show _ = r
      rw [← hr]; simp [mapped, hval]
    clear hr
    go_enter Tryz.func61, Tryz.ntmps61
    go_wp2_with fail
    refine htx.mono ?_
    rintro e w1 ⟨rfl, hb⟩
    have HB := Lib.hid hb
    clear htx hb
    go_wp2_with fail
    go_loopg [6] s.size (fun k v wr => ∃ (pos n : Nat) (acc : List UInt8), pos ≤ s.size ∧ s.size - pos ≤ k ∧ s.size - pos ≤ n ∧ acc.length ≤ 4 * pos ∧ Hid (wr.ownsRow w.heap.size 5 1 v acc.length (bytesV acc)) ∧ Hid (wr.heap[w1.heap.size]? = some (.stringIter s pos)) ∧ Hid (Below w.heap.size w wr) ∧ Hid (mapGo fold n acc (rest s pos) = r))
    case atStart =>
      exact ⟨0, s.size, [], Nat.zero_le _, Nat.le_refl _, Nat.le_refl _, Nat.zero_le _, ⟨rfl, .inl ⟨rfl, rfl⟩⟩, World.iter_heap w1 s 0, HB.out.alloc HB.out.size _, Hr.out⟩
    case round =>
      obtain ⟨pos, n, acc, hps, hk, hn, hal, hown, hit, hb, hgo⟩ := hrel
      by_cases hlt : pos < s.size
      · obtain ⟨n', rfl⟩ : ∃ n', n = n' + 1 := ⟨n - 1, by omega⟩
        have hnx : ∀ ty, (Instr.next (.pointer (some ⟨w1.heap.size, 0, none⟩)) true ty).run Tryz.prog wr = _ := fun ty => Lib.run_next_any_at wr w1.heap.size s pos ty hit.out hlt
        obtain ⟨hw1, hw2⟩ := decode_len s pos hlt
        have hmax := Lib.rune_le s pos
        have hne : rest s pos ≠ [] := by rw [rest_lt hlt]; simp
        have hgo2 := hgo.out
        simp only [mapGo, if_neg hne] at hgo2
        rw [show Lib.decodeL (rest s pos) = Utf8.decode s pos from Lib.decodeL_drop s pos, show (rest s pos).drop (Utf8.decode s pos).2 = rest s (pos + (Utf8.decode s pos).2) from by simp [rest]] at hgo2
        have hit2 := Lib.hid (Lib.iterAt_heap wr w1.heap.size s pos (pos + (Utf8.decode s pos).2) hit.out)
        have hb2 := Lib.hid (Lib.below_iterAt hb.out (k := w1.heap.size) HB.out.size s (pos + (Utf8.decode s pos).2))
        have hown2 := Lib.hid (own_iter hown.out hit.out (pos + (Utf8.decode s pos).2))
        obtain ⟨W, hWd⟩ : ∃ W, wr.iterAt w1.heap.size s (pos + (Utf8.decode s pos).2) = W := ⟨_, rfl⟩
        rw [hWd] at hnx hit2 hb2 hown2
        clear hWd hown hb hit hgo hne
        generalize Utf8.decode s pos = D at *
        obtain ⟨R, K⟩ := D
        simp only at hnx hw1 hw2 hmax hgo2 hit2 hb2 hown2
        have Hstay := fun h h1 => Lib.hid (mapR_stays (r := (R : Int)) h (Int.natCast_nonneg _) h1)
        have hmc := map_calls (R : Int) W
        generalize mapR (R : Int) = M at *
        obtain ⟨m, st, rf⟩ := M
        simp only at hgo2 hmc Hstay
        cases rf with
        | true =>
          have Hn : Hid (r = none) := by show r = none; rw [← hgo2]; simp
          clear hgo2 Hstay
          go_wp2_with fail
          refine hmc.mono ?_
          rintro e w2 ⟨rfl, rfl⟩
          clear hmc
          go_wp2_with fail
          go_ret2
          exact ⟨by rw [Hn.out]; rfl, hb2.out⟩
        | false =>
        cases st with
        | false =>
          have Hn := Lib.hid hgo2
          simp only [Bool.false_eq_true, if_false, true_or, if_true] at Hn
          clear hgo2 Hstay
          go_wp2_with fail
          refine hmc.mono ?_
          rintro e w2 ⟨rfl, rfl⟩
          clear hmc
          go_wp2_with fail
          go_roundg (s.size - (pos + K))
          case measure => omega
          case rel => exact ⟨pos + K, n', acc, hw2, Nat.le_refl _, by omega, by omega, hown2.out, hit2.out, hb2.out, Hn.out⟩
        | true =>
          have Hst := Hstay rfl rfl
          clear Hstay
          go_wp2_with fail
          refine hmc.mono ?_
          rintro e w2 ⟨rfl, rfl⟩
          clear hmc
          by_cases h32 : m = 32
          · subst h32
            rcases nil_or_snoc acc with rfl | ⟨acc', x, rfl⟩
            · have Hn : Hid (mapGo fold n' ([] ++ runeB (laidR fold 32)) (rest s (pos + K)) = r) := by
                show _ = r
                rw [← hgo2]; simp
              have q1 : ((0 : Nat) : Int) = 0 := rfl
              obtain ⟨ya, yc, rfl⟩ := own_slice hown2.out
              have q2 : decide ((0 : Int) < (([] : List UInt8).length : Int)) = false := rfl
              clear hgo2
              have h63a : ([] : List UInt8).length + 4 ≤ maxLen := by unfold maxLen; omega
              cases fold with
              | true =>
                have hfv := foldR_valid Hst.out.1
                have hf1 := fold_calls 32 W Hst.out.2.1 Hst.out.2.2
                have hf2 := putRune_calls (foldR 32) W hfv
                have hsz4 := runeB_le (foldR 32)
                have hn3 := Lib.hid Hn.out
                clear Hn hfv Hst
                go_wp2_with fail
                refine hf1.mono ?_
                rintro e w3 ⟨rfl, rfl⟩
                clear hf1
                go_wp2_with fail
                refine hf2.mono ?_
                rintro e w4 ⟨rfl, rfl⟩
                clear hf2
                go_wp2_with (at_builtin; refine Lib.wpList_append_own_string _ rfl _ _ 88 9 rfl w.heap.size 5 i0 Tryz.underlying88 Tryz.underlying9 hi0 hz0 hz1 hz2 _ _ _ rfl hown2.out _ rfl (by omega) (by omega) hb2.out.size ?_; intro v7 w7 hown7 hgr7 _)
                have Hit7 : Hid (w7.heap[w1.heap.size]? = some (.stringIter s (pos + K))) := (hgr7.block w1.heap.size (lt_of_block hit2.out) (fun e => iter_ne hown2.out hit2.out e.symm)).trans hit2.out
                have Hb7 := Lib.hid (hb2.out.grown hgr7 hb2.out.size (fun j hj => (hown2.out.lt j hj).1))
                have Hown7 : Hid (w7.ownsRow w.heap.size 5 1 v7 ([] ++ runeB (foldR 32)).length (bytesV ([] ++ runeB (foldR 32)))) := by
                  show w7.ownsRow _ _ _ _ _ _
                  have e1 : ([] ++ runeB (foldR 32)).length = ([] : List UInt8).length + (Utf8.encode (foldR 32)).size := by rw [List.length_append]; rfl
                  have e2 : bytesV ([] ++ runeB (foldR 32)) = bytesV [] ++ Lib.strCells (Utf8.encode (foldR 32)) := by simp [bytesV, runeB, Lib.strCells]
                  rw [e1, e2]
                  exact hown7
                have hl7 : ([] ++ runeB (foldR 32)).length ≤ 4 * (pos + K) := by
                  have e1 : ([] ++ runeB (foldR 32)).length = ([] : List UInt8).length + (Utf8.encode (foldR 32)).size := by rw [List.length_append]; rfl
                  omega
                clear hown7 hgr7
                go_wp2_with fail
                go_roundg (s.size - (pos + K))
                case measure => omega
                case rel => exact ⟨pos + K, n', _, hw2, Nat.le_refl _, by omega, hl7, Hown7.out, Hit7.out, Hb7.out, hn3.out⟩
              | false =>
                have hf2 := putRune_calls 32 W Hst.out.1
                have hsz4 := runeB_le 32
                have hn3 := Lib.hid Hn.out
                clear Hn Hst
                go_wp2_with fail
                refine hf2.mono ?_
                rintro e w4 ⟨rfl, rfl⟩
                clear hf2
                go_wp2_with (at_builtin; refine Lib.wpList_append_own_string _ rfl _ _ 88 9 rfl w.heap.size 5 i0 Tryz.underlying88 Tryz.underlying9 hi0 hz0 hz1 hz2 _ _ _ rfl hown2.out _ rfl (by omega) (by omega) hb2.out.size ?_; intro v7 w7 hown7 hgr7 _)
                have Hit7 : Hid (w7.heap[w1.heap.size]? = some (.stringIter s (pos + K))) := (hgr7.block w1.heap.size (lt_of_block hit2.out) (fun e => iter_ne hown2.out hit2.out e.symm)).trans hit2.out
                have Hb7 := Lib.hid (hb2.out.grown hgr7 hb2.out.size (fun j hj => (hown2.out.lt j hj).1))
                have Hown7 : Hid (w7.ownsRow w.heap.size 5 1 v7 ([] ++ runeB 32).length (bytesV ([] ++ runeB 32))) := by
                  show w7.ownsRow _ _ _ _ _ _
                  have e1 : ([] ++ runeB 32).length = ([] : List UInt8).length + (Utf8.encode 32).size := by rw [List.length_append]; rfl
                  have e2 : bytesV ([] ++ runeB 32) = bytesV [] ++ Lib.strCells (Utf8.encode 32) := by simp [bytesV, runeB, Lib.strCells]
                  rw [e1, e2]
                  exact hown7
                have hl7 : ([] ++ runeB 32).length ≤ 4 * (pos + K) := by
                  have e1 : ([] ++ runeB 32).length = ([] : List UInt8).length + (Utf8.encode 32).size := by rw [List.length_append]; rfl
                  omega
                clear hown7 hgr7
                go_wp2_with fail
                go_roundg (s.size - (pos + K))
                case measure => omega
                case rel => exact ⟨pos + K, n', _, hw2, Nat.le_refl _, by omega, hl7, Hown7.out, Hit7.out, Hb7.out, hn3.out⟩
            · have hlen : (acc' ++ [x]).length = acc'.length + 1 := by simp
              obtain ⟨ya, yc, rfl⟩ := own_slice hown2.out
              rw [hlen] at hal
              rcases hown2.out.2 with ⟨_, h0⟩ | ⟨g, cap, cur, hv, hgb, hh, hnc, hcm, hsz, htk⟩
              · rw [hlen] at h0; cases h0
              injection hv with hv1 hv2 hv3
              subst hv1 hv3
              clear hgb hh hnc hcm hsz htk hv2
              have c0 : W.cell? ⟨g, acc'.length, none⟩ = some (.int .u8 (x.toNat : Int)) := own_cells hown2.out _ _ (by simp [bytesV])
              have hxle := byte_le x
              have hwl : IntKind.i64.wrap ((acc'.length : Int) + 1 - 1) = (acc'.length : Int) := by rw [show (acc'.length : Int) + 1 - 1 = (acc'.length : Int) by omega]; exact IntWalk.i64_in _ (by omega)
              by_cases hx : x = 32
              · subst hx
                have Hn : Hid (mapGo fold n' (acc' ++ [32]) (rest s (pos + K)) = r) := by
                  show _ = r
                  rw [← hgo2]; simp
                clear hgo2
                rw [hlen] at hown2 ⊢
                go_wp2_with fail
                go_roundg (s.size - (pos + K))
                case measure => omega
                case rel => exact ⟨pos + K, n', acc' ++ [32], hw2, Nat.le_refl _, by omega, by omega, by rw [hlen]; exact hown2.out, hit2.out, hb2.out, Hn.out⟩
              · have q1 : ((x.toNat : Int) == 32) = false := by
                  rw [beq_eq_false_iff_ne]
                  intro h
                  exact hx (u8_eq (n := 32) (by omega) h)
                have Hn : Hid (mapGo fold n' ((acc' ++ [x]) ++ runeB (laidR fold 32)) (rest s (pos + K)) = r) := by
                  show _ = r
                  rw [← hgo2]; simp [hx]
                clear hgo2
                rw [hlen] at hown2 ⊢
                have h63a : (acc' ++ [x]).length + 4 ≤ maxLen := by unfold maxLen; omega
                cases fold with
                | true =>
                  have hfv := foldR_valid Hst.out.1
                  have hf1 := fold_calls 32 W Hst.out.2.1 Hst.out.2.2
                  have hf2 := putRune_calls (foldR 32) W hfv
                  have hsz4 := runeB_le (foldR 32)
                  have hn3 := Lib.hid Hn.out
                  clear Hn hfv Hst
                  go_wp2_with fail
                  refine hf1.mono ?_
                  rintro e w3 ⟨rfl, rfl⟩
                  clear hf1
                  go_wp2_with fail
                  refine hf2.mono ?_
                  rintro e w4 ⟨rfl, rfl⟩
                  clear hf2
                  go_wp2_with (at_builtin; refine Lib.wpList_append_own_string _ rfl _ _ 88 9 rfl w.heap.size 5 i0 Tryz.underlying88 Tryz.underlying9 hi0 hz0 hz1 hz2 _ _ _ rfl hown2.out _ rfl (by omega) (by omega) hb2.out.size ?_; intro v7 w7 hown7 hgr7 _)
                  have Hit7 : Hid (w7.heap[w1.heap.size]? = some (.stringIter s (pos + K))) := (hgr7.block w1.heap.size (lt_of_block hit2.out) (fun e => iter_ne hown2.out hit2.out e.symm)).trans hit2.out
                  have Hb7 := Lib.hid (hb2.out.grown hgr7 hb2.out.size (fun j hj => (hown2.out.lt j hj).1))
                  have Hown7 : Hid (w7.ownsRow w.heap.size 5 1 v7 ((acc' ++ [x]) ++ runeB (foldR 32)).length (bytesV ((acc' ++ [x]) ++ runeB (foldR 32)))) := by
                    show w7.ownsRow _ _ _ _ _ _
                    have e1 : ((acc' ++ [x]) ++ runeB (foldR 32)).length = (acc' ++ [x]).length + (Utf8.encode (foldR 32)).size := by rw [List.length_append]; rfl
                    have e2 : bytesV ((acc' ++ [x]) ++ runeB (foldR 32)) = bytesV (acc' ++ [x]) ++ Lib.strCells (Utf8.encode (foldR 32)) := by simp [bytesV, runeB, Lib.strCells]
                    rw [e1, e2, hlen]
                    exact hown7
                  have hl7 : ((acc' ++ [x]) ++ runeB (foldR 32)).length ≤ 4 * (pos + K) := by
                    have e1 : ((acc' ++ [x]) ++ runeB (foldR 32)).length = (acc' ++ [x]).length + (Utf8.encode (foldR 32)).size := by rw [List.length_append]; rfl
                    omega
                  clear hown7 hgr7
                  go_wp2_with fail
                  go_roundg (s.size - (pos + K))
                  case measure => omega
                  case rel => exact ⟨pos + K, n', _, hw2, Nat.le_refl _, by omega, hl7, Hown7.out, Hit7.out, Hb7.out, hn3.out⟩
                | false =>
                  have hf2 := putRune_calls 32 W Hst.out.1
                  have hsz4 := runeB_le 32
                  have hn3 := Lib.hid Hn.out
                  clear Hn Hst
                  go_wp2_with fail
                  refine hf2.mono ?_
                  rintro e w4 ⟨rfl, rfl⟩
                  clear hf2
                  go_wp2_with (at_builtin; refine Lib.wpList_append_own_string _ rfl _ _ 88 9 rfl w.heap.size 5 i0 Tryz.underlying88 Tryz.underlying9 hi0 hz0 hz1 hz2 _ _ _ rfl hown2.out _ rfl (by omega) (by omega) hb2.out.size ?_; intro v7 w7 hown7 hgr7 _)
                  have Hit7 : Hid (w7.heap[w1.heap.size]? = some (.stringIter s (pos + K))) := (hgr7.block w1.heap.size (lt_of_block hit2.out) (fun e => iter_ne hown2.out hit2.out e.symm)).trans hit2.out
                  have Hb7 := Lib.hid (hb2.out.grown hgr7 hb2.out.size (fun j hj => (hown2.out.lt j hj).1))
                  have Hown7 : Hid (w7.ownsRow w.heap.size 5 1 v7 ((acc' ++ [x]) ++ runeB 32).length (bytesV ((acc' ++ [x]) ++ runeB 32))) := by
                    show w7.ownsRow _ _ _ _ _ _
                    have e1 : ((acc' ++ [x]) ++ runeB 32).length = (acc' ++ [x]).length + (Utf8.encode 32).size := by rw [List.length_append]; rfl
                    have e2 : bytesV ((acc' ++ [x]) ++ runeB 32) = bytesV (acc' ++ [x]) ++ Lib.strCells (Utf8.encode 32) := by simp [bytesV, runeB, Lib.strCells]
                    rw [e1, e2, hlen]
                    exact hown7
                  have hl7 : ((acc' ++ [x]) ++ runeB 32).length ≤ 4 * (pos + K) := by
                    have e1 : ((acc' ++ [x]) ++ runeB 32).length = (acc' ++ [x]).length + (Utf8.encode 32).size := by rw [List.length_append]; rfl
                    omega
                  clear hown7 hgr7
                  go_wp2_with fail
                  go_roundg (s.size - (pos + K))
                  case measure => omega
                  case rel => exact ⟨pos + K, n', _, hw2, Nat.le_refl _, by omega, hl7, Hown7.out, Hit7.out, Hb7.out, hn3.out⟩
          · have q1 : (m == 32) = false := by simpa using h32
            have Hn : Hid (mapGo fold n' (acc ++ runeB (laidR fold m)) (rest s (pos + K)) = r) := by
              show _ = r
              rw [← hgo2]; simp [h32]
            clear hgo2
            have h63a : acc.length + 4 ≤ maxLen := by unfold maxLen; omega
            cases fold with
            | true =>
              have hfv := foldR_valid Hst.out.1
              have hf1 := fold_calls m W Hst.out.2.1 Hst.out.2.2
              have hf2 := putRune_calls (foldR m) W hfv
              have hsz4 := runeB_le (foldR m)
              have hn3 := Lib.hid Hn.out
              clear Hn hfv Hst
              go_wp2_with fail
              refine hf1.mono ?_
              rintro e w3 ⟨rfl, rfl⟩
              clear hf1
              go_wp2_with fail
              refine hf2.mono ?_
              rintro e w4 ⟨rfl, rfl⟩
              clear hf2
              go_wp2_with (at_builtin; refine Lib.wpList_append_own_string _ rfl _ _ 88 9 rfl w.heap.size 5 i0 Tryz.underlying88 Tryz.underlying9 hi0 hz0 hz1 hz2 _ _ _ rfl hown2.out _ rfl (by omega) (by omega) hb2.out.size ?_; intro v7 w7 hown7 hgr7 _)
              have Hit7 : Hid (w7.heap[w1.heap.size]? = some (.stringIter s (pos + K))) := (hgr7.block w1.heap.size (lt_of_block hit2.out) (fun e => iter_ne hown2.out hit2.out e.symm)).trans hit2.out
              have Hb7 := Lib.hid (hb2.out.grown hgr7 hb2.out.size (fun j hj => (hown2.out.lt j hj).1))
              have Hown7 : Hid (w7.ownsRow w.heap.size 5 1 v7 (acc ++ runeB (foldR m)).length (bytesV (acc ++ runeB (foldR m)))) := by
                show w7.ownsRow _ _ _ _ _ _
                have e1 : (acc ++ runeB (foldR m)).length = acc.length + (Utf8.encode (foldR m)).size := by rw [List.length_append]; rfl
                have e2 : bytesV (acc ++ runeB (foldR m)) = bytesV acc ++ Lib.strCells (Utf8.encode (foldR m)) := by simp [bytesV, runeB, Lib.strCells]
                rw [e1, e2]
                exact hown7
              have hl7 : (acc ++ runeB (foldR m)).length ≤ 4 * (pos + K) := by
                have e1 : (acc ++ runeB (foldR m)).length = acc.length + (Utf8.encode (foldR m)).size := by rw [List.length_append]; rfl
                omega
              clear hown7 hgr7
              go_wp2_with fail
              go_roundg (s.size - (pos + K))
              case measure => omega
              case rel => exact ⟨pos + K, n', _, hw2, Nat.le_refl _, by omega, hl7, Hown7.out, Hit7.out, Hb7.out, hn3.out⟩
            | false =>
              have hf2 := putRune_calls m W Hst.out.1
              have hsz4 := runeB_le m
              have hn3 := Lib.hid Hn.out
              clear Hn Hst
              go_wp2_with fail
              refine hf2.mono ?_
              rintro e w4 ⟨rfl, rfl⟩
              clear hf2
              go_wp2_with (at_builtin; refine Lib.wpList_append_own_string _ rfl _ _ 88 9 rfl w.heap.size 5 i0 Tryz.underlying88 Tryz.underlying9 hi0 hz0 hz1 hz2 _ _ _ rfl hown2.out _ rfl (by omega) (by omega) hb2.out.size ?_; intro v7 w7 hown7 hgr7 _)
              have Hit7 : Hid (w7.heap[w1.heap.size]? = some (.stringIter s (pos + K))) := (hgr7.block w1.heap.size (lt_of_block hit2.out) (fun e => iter_ne hown2.out hit2.out e.symm)).trans hit2.out
              have Hb7 := Lib.hid (hb2.out.grown hgr7 hb2.out.size (fun j hj => (hown2.out.lt j hj).1))
              have Hown7 : Hid (w7.ownsRow w.heap.size 5 1 v7 (acc ++ runeB m).length (bytesV (acc ++ runeB m))) := by
                show w7.ownsRow _ _ _ _ _ _
                have e1 : (acc ++ runeB m).length = acc.length + (Utf8.encode m).size := by rw [List.length_append]; rfl
                have e2 : bytesV (acc ++ runeB m) = bytesV acc ++ Lib.strCells (Utf8.encode m) := by simp [bytesV, runeB, Lib.strCells]
                rw [e1, e2]
                exact hown7
              have hl7 : (acc ++ runeB m).length ≤ 4 * (pos + K) := by
                have e1 : (acc ++ runeB m).length = acc.length + (Utf8.encode m).size := by rw [List.length_append]; rfl
                omega
              clear hown7 hgr7
              go_wp2_with fail
              go_roundg (s.size - (pos + K))
              case measure => omega
              case rel => exact ⟨pos + K, n', _, hw2, Nat.le_refl _, by omega, hl7, Hown7.out, Hit7.out, Hb7.out, hn3.out⟩
      · have hnx : ∀ ty, (Instr.next (.pointer (some ⟨w1.heap.size, 0, none⟩)) true ty).run Tryz.prog wr = _ := fun ty => Lib.run_next_end_at wr w1.heap.size s pos ty hit.out hlt
        have Hn : Hid (r = some acc) := by
          show r = _
          rw [← hgo.out, rest_ge (by omega)]
          cases n <;> simp [mapGo]
        rcases hown.out.2 with ⟨rfl, h0⟩ | ⟨g, cap, cur, rfl, hgb, hh, hnc, hcm, hsz, htk⟩
        · have ha : acc = [] := List.length_eq_zero_iff.1 h0
          subst ha
          have hcn := convert_nil
          go_wp2_with fail
          go_ret2
          exact ⟨by rw [Hn.out]; rfl, hb.out⟩
        · clear hgb hh hnc hcm hsz htk
          have Hc := Lib.hid (convert_own hown.out (Nat.le_refl _) cap)
          have hc := Hc.out
          go_wp2_with fail
          go_ret2
          exact ⟨by rw [Hn.out]; simp [mappedV, strV], hb.out⟩
end Sy
end Go.Proofs.YthoealembhkaoaaGreatDoor
namespace Go.Proofs.YthoealembhkaoaaGreatDoor
open Go.RowKit
namespace Sy
set_option linter.unusedVariables false

/-- A text, prepared. -/
def prepR (fold : Bool) (l : List UInt8) : Option (List UInt8) :=
  match mapped fold l with
  | none => none
  | some t => if Lib.trimB t 32 = [] ∧ l ≠ [] then some [32] else some (Lib.trimB t 32)

theorem mapGo_len (fold : Bool) : ∀ (n : Nat) (acc l t : List UInt8), mapGo fold n acc l = some t → t.length ≤ acc.length + 4 * l.length
  | 0, acc, l, t, h => by simp only [mapGo] at h; injection h with h; subst h; omega
  | n + 1, acc, l, t, h => by
    simp only [mapGo] at h
    split at h
    · injection h with h; subst h; omega
    · rename_i hne
      have hw := Lib.decodeL_width l
      have hl : 0 < l.length := by cases l with | nil => exact absurd rfl hne | cons _ _ => simp
      split at h
      · cases h
      · split at h
        · have := mapGo_len fold n _ _ _ h
          simp at this; omega
        · have h1 := mapGo_len fold n _ _ _ h
          have h2 : (runeB (laidR fold (mapR ((Lib.decodeL l).1 : Int)).1)).length ≤ 4 := runeB_le _
          simp at h1; omega
theorem mapped_len {fold : Bool} {l t : List UInt8} (h : mapped fold l = some t) : t.length ≤ 4 * l.length := by
  unfold mapped at h
  split at h
  · simpa using mapGo_len fold _ _ _ _ h
  · cases h

set_option maxHeartbeats 1000000 in
theorem prepare_calls (s : ByteArray) (fold : Bool) (w : World) (hs : s.size ≤ 4294967296) (he : Env w) :
    Calls Tryz.prog 34 #[.string s, .bool fold] w fun e w' => e = .returned (mappedV (prepR fold s.data.toList)) ∧ Below w.heap.size w w' := by
  have hm := mapped_calls s fold w hs he
  unfold prepR
  have hml := fun t (h : mapped fold s.data.toList = some t) => mapped_len h
  generalize mapped fold s.data.toList = M at *
  cases M with
  | none =>
    clear hml
    go_enter Tryz.func34, Tryz.ntmps34
    go_wp2_with fail
    refine hm.mono ?_
    rintro e w1 ⟨rfl, hb⟩
    clear hm
    simp only [mappedV]
    go_wp2_with fail
    go_ret2
    exact ⟨rfl, hb⟩
  | some t =>
    have htl := hml t rfl
    have htr := fun W => Tryz.strings_Trim_one ⟨t.toArray⟩ 32 (by decide) W (by simp at htl ⊢; show t.length ≤ _; omega)
    simp only at htr
    clear hml
    by_cases hc : Lib.trimB t 32 = [] ∧ s.data.toList ≠ []
    · rw [hc.1] at htr
      have q1 : s.toList.isEmpty = false := toList_ne s hc.2
      simp only [hc.1, hc.2, ne_eq, not_false_eq_true, and_self, if_true]
      clear hc
      go_enter Tryz.func34, Tryz.ntmps34
      go_wp2_with fail
      refine hm.mono ?_
      rintro e w1 ⟨rfl, hb⟩
      clear hm
      simp only [mappedV, strV]
      go_wp2_with fail
      refine (htr _).mono ?_
      rintro e w2 ⟨rfl, hw⟩
      go_wp2_with fail
      have hb2 : Below w.heap.size w w2 := by
        rcases hw with rfl | rfl
        · exact hb
        · exact hb.drew
      go_ret2
      exact ⟨rfl, hb2⟩
    · simp only [if_neg hc]
      generalize Lib.trimB t 32 = u at *
      rcases u with _ | ⟨x, u⟩
      · have q0 : s.data.toList = [] := by
          rcases Decidable.em (s.data.toList = []) with h | h
          · exact h
          · exact absurd ⟨rfl, h⟩ hc
        have q1 : s.toList.isEmpty = true := toList_nil s q0
        clear hc q0
        go_enter Tryz.func34, Tryz.ntmps34
        go_wp2_with fail
        refine hm.mono ?_
        rintro e w1 ⟨rfl, hb⟩
        clear hm
        simp only [mappedV, strV]
        go_wp2_with fail
        refine (htr _).mono ?_
        rintro e w2 ⟨rfl, hw⟩
        go_wp2_with fail
        have hb2 : Below w.heap.size w w2 := by
          rcases hw with rfl | rfl
          · exact hb
          · exact hb.drew
        go_ret2
        exact ⟨rfl, hb2⟩
      · have q1 : (⟨(x :: u).toArray⟩ : ByteArray).toList.isEmpty = false := toList_ne _ (by simp)
        clear hc
        go_enter Tryz.func34, Tryz.ntmps34
        go_wp2_with fail
        refine hm.mono ?_
        rintro e w1 ⟨rfl, hb⟩
        clear hm
        simp only [mappedV, strV]
        go_wp2_with fail
        refine (htr _).mono ?_
        rintro e w2 ⟨rfl, hw⟩
        go_wp2_with fail
        have hb2 : Below w.heap.size w w2 := by
          rcases hw with rfl | rfl
          · exact hb
          · exact hb.drew
        go_ret2
        exact ⟨rfl, hb2⟩
end Sy
end Go.Proofs.YthoealembhkaoaaGreatDoor
