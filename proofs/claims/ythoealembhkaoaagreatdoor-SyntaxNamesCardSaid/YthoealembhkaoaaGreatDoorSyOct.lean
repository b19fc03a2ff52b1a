import Derived.Test.YthoealembhkaoaaGreatDoorSyParse
import Derived.Deep.RegionLaw
namespace Go.Proofs.YthoealembhkaoaaGreatDoor
open Go.RowKit
namespace Sy
set_option linter.unusedVariables false

theorem compare_calls (a b : ByteArray) (w : World) :
    Calls Tryz.prog 33 #[.string a, .string b] w fun e w' => e = .returned (.int .i64 (Lib.compareBytes a.data.toList b.data.toList)) ∧ w' = w := by
  have hc := Tryz.strings_Compare a b w
  generalize Lib.compareBytes a.data.toList b.data.toList = n at *
  go_enter Tryz.func33, Tryz.ntmps33
  go_wp2_with fail
  refine hc.mono ?_
  rintro e w1 ⟨rfl, rfl⟩
  clear hc
  go_wp2_with fail
  go_ret
  exact ⟨rfl, rfl⟩
theorem text_calls (s : ByteArray) (w : World) (hs : s.size ≤ 9223372036854775807) (he : Env w) :
    Calls Tryz.prog 99 #[.string s] w fun e w' => e = .returned (.bool (Lib.validD s.data.toList)) ∧ Below w.heap.size w w' := by
  have hc := Tryz.utf8_ValidString s w hs he.u
  generalize Lib.validD s.data.toList = n at *
  go_enter Tryz.func99, Tryz.ntmps99
  go_wp2_with fail
  refine hc.mono ?_
  rintro e w1 ⟨rfl, hb⟩
  clear hc
  go_wp2_with fail
  go_ret
  exact ⟨rfl, hb⟩
theorem putRune_calls (r : Int) (w : World) (h : Lib.validRune r = true) :
    Calls Tryz.prog 102 #[.int .i32 r] w fun e w' => e = .returned (.tuple #[.string (Utf8.encode r), .int .i64 0]) ∧ w' = w := by
  have hc := Tryz.utf8_ValidRune r w
  rw [h] at hc
  go_enter Tryz.func102, Tryz.ntmps102
  go_wp2_with fail
  refine hc.mono ?_
  rintro e w1 ⟨rfl, rfl⟩
  clear hc
  go_wp2_with fail
  go_ret2
  exact ⟨rfl, rfl⟩
/-- append within the capacity of a row of the call's own, as one step of a region that draws. -/
theorem step_append_fits {P : Program} {ops : Array Oper} {o : Oper} {a : Act} {w : World} {K : Act → World → Prop} {Q : Exit → Act → World → Prop} {E : Prop}
    (hg : o.guard = none) (s x : Operand) (t : TypeId) (hop : o.op = Op.call { callee := Callee.builtin Builtin.append, args := #[s, x], argTypes := #[t, t] })
    (base : Nat) (e : TypeId) (i : TypeInfo) (size : Nat) (h1 : P.underlying t = some (.slice e)) (h2 : P.info? e = some i) (h4 : i.size = size)
    (g k cap : Nat) (xs : List Value) (hs : a.eval s = .slice (some ⟨g, 0, none⟩) k cap) (hown : w.ownsRow base e size (.slice (some ⟨g, 0, none⟩) k cap) k xs) (ad : Addr) (m c : Nat) (news : List Value) (hx : a.eval x = .slice (some ad) m c) (hn : news.length = m * size)
    (hc : ∀ j u, news[j]? = some u → w.cell? (ad.add j) = some u) (h1c : ∀ u ∈ news, u.oneCell' = true) (b1 : k + m ≤ cap)
    (hK : ∀ w', w'.ownsRow base e size (.slice (some ⟨g, 0, none⟩) (k + m) cap) (k + m) (xs ++ news) → w.grownBy w' (some g) → K (a.put o.dst (.slice (some ⟨g, 0, none⟩) (k + m) cap)) w') :
    if Region.wanted o (yielded ops a.tmps) = true then Oper.wp P o a w K Q else E := by
  have hw : Region.wanted o (yielded ops a.tmps) = true := by simp [Region.wanted, hg]
  rw [if_pos hw]
  obtain ⟨w', hrun, r1, r2⟩ := run_append_fits (P := P) w base t o.type e i size h1 h2 h4 g k cap xs hown ad m c news hn hc h1c b1
  unfold Oper.wp
  simp [execOp, hop, resolve, invoke, builtin, hs, hx, hrun, Result.andThen]
  exact hK w' r1 r2
theorem cell_two_new (w : World) (u v : Value) (e : TypeId) (j : Nat) (x : Value) (h : [u, v][j]? = some x) : (w.alloc (.cells #[u, v] e)).cell? ((⟨w.heap.size, 0, none⟩ : Addr).add j) = some x := by
  match j, h with
  | 0, h => simp at h; subst h; simp [go_sem, Addr.add]
  | 1, h => simp at h; subst h; simp [go_sem, Addr.add]
  | n + 2, h => simp at h
/-- A digit of sixteen. -/
def hexd (n : Nat) : UInt8 := if n < 10 then UInt8.ofNat (48 + n) else UInt8.ofNat (87 + n)
/-- Bytes as digits. -/
def hexed : List UInt8 → List UInt8
  | [] => []
  | b :: l => hexd (b.toNat / 16) :: hexd (b.toNat % 16) :: hexed l
theorem hexed_length : ∀ l, (hexed l).length = 2 * l.length
  | [] => rfl
  | b :: l => by simp [hexed, hexed_length l]; omega

theorem digs_at (x : Int) (h : x.toNat < (⟨#[48, 49, 50, 51, 52, 53, 54, 55, 56, 57, 97, 98, 99, 100, 101, 102]⟩ : ByteArray).size) : (⟨#[48, 49, 50, 51, 52, 53, 54, 55, 56, 57, 97, 98, 99, 100, 101, 102]⟩ : ByteArray)[x.toNat]'h = hexd x.toNat := by
  generalize x.toNat = n at *
  have h' : n < 16 := h
  have : ∀ k : Fin 16, (⟨#[48, 49, 50, 51, 52, 53, 54, 55, 56, 57, 97, 98, 99, 100, 101, 102]⟩ : ByteArray)[k.val]'k.isLt = hexd k.val := by decide
  exact this ⟨n, h'⟩
set_option maxRecDepth 100000 in
theorem and_fifteen (b : UInt8) : bits .and .u8 (b.toNat : Int) 15 = (b.toNat : Int) % 16 := by
  have h : ∀ x : Fin 256, bits .and .u8 (x.val : Int) 15 = (x.val : Int) % 16 := by decide
  exact h ⟨b.toNat, b.toNat_lt⟩
set_option maxRecDepth 100000 in
set_option maxHeartbeats 2000000 in
theorem hexOut_calls (s : ByteArray) (w : World) (hs : s.size ≤ 140737488351232) :
    Calls Tryz.prog 194 #[.string s] w fun e w' => e = .returned (strV (hexed s.data.toList)) ∧ Below w.heap.size w w' := by
  obtain ⟨i0, hi, hz0, hz1, hz2⟩ := info_parts info5
  obtain ⟨r, hr⟩ : ∃ r, hexed s.data.toList = r := ⟨_, rfl⟩
  rw [hr]
  have Hr := Lib.hid hr
  clear hr
  go_enter Tryz.func194, Tryz.ntmps194
  go_wp2_with (at_make; refine wpList_make_own _ rfl _ _ 88 rfl w.heap.size 5 i0 (.int .u8 0) 1 Tryz.underlying88 hi hz0 hz1 _ _ _ (2 * s.size) rfl rfl (by omega) (by rw [hz2]; omega) (by unfold maxLen; omega) (Nat.le_refl _) ?_; intro w1 hown1 hgr1)
  have hb1 : Below w.heap.size w w1 := (Below.refl _ _).grown hgr1 (Nat.le_refl _) (by simp)
  obtain ⟨g, hg⟩ : ∃ g, g = w.heap.size := ⟨_, rfl⟩
  rw [← hg] at hown1
  have Hown1 := Lib.hid hown1
  have Hb1 := Lib.hid hb1
  rw [← hg]
  clear hown1 hb1 hgr1
  have Hg := Lib.hid hg
  clear hg
  go_loopg [3, 11] s.size (fun k v iv wr => ∃ (i j : Nat) (l : List UInt8), i ≤ s.size ∧ s.size - i ≤ k ∧ iv = .int .i64 i ∧ v = .slice (some ⟨g, 0, none⟩) j (2 * s.size) ∧ Hid (j = 2 * i) ∧ Hid (wr.ownsRow g 5 1 (.slice (some ⟨g, 0, none⟩) j (2 * s.size)) j (bytesV l)) ∧ Hid (r = l ++ hexed (rest s i)) ∧ Hid (Below g w wr))
  case atStart => exact ⟨0, 0, [], Nat.zero_le _, Nat.le_refl _, rfl, rfl, rfl, Hown1.out, by rw [← Hr.out]; rfl, by rw [Hg.out]; exact Hb1.out⟩
  case round =>
    obtain ⟨i, j, l, hi', hk, rfl, rfl, hij, hown, hu, hb⟩ := hrel
    by_cases hlt : i < s.size
    · have hB0 := byte_le (s[i]'hlt)
      have Hrt := Lib.hid (rest_lt hlt)
      have hjc : j + 2 ≤ 2 * s.size := by have := hij.out; omega
      go_wp2_with fail
      have q1 : (0 : Int) ≤ (s[i].toNat : Int) / 16 := by omega
      have q2 : (s[i].toNat : Int) / 16 < 16 := by omega
      have q0 := and_fifteen (s[i]'hlt)
      have q3 : (0 : Int) ≤ (s[i].toNat : Int) % 16 := by omega
      have q4 : (s[i].toNat : Int) % 16 < 16 := by omega
      go_region_law (refine step_append_fits rfl _ _ 88 rfl g 5 i0 1 Tryz.underlying88 hi hz1 g j (2 * s.size) (bytesV l) rfl ((own_drewN hown.out 1).alloc _) ⟨wr.heap.size, 0, none⟩ 2 2 [_, _] rfl rfl (cell_two_new _ _ _ _) (by simp [Value.oneCell']) hjc ?_; intro w2 hown2 hgr2)
      all_goals
        simp only [digs_at] at hown2
        have e1 : ((s[i].toNat : Int) / 16).toNat = s[i].toNat / 16 := by omega
        have e2 : ((s[i].toNat : Int) % 16).toNat = s[i].toNat % 16 := by omega
        rw [e1, e2] at hown2
        have hv : bytesV l ++ [Value.int .u8 ((hexd (s[i].toNat / 16)).toNat : Int), Value.int .u8 ((hexd (s[i].toNat % 16)).toNat : Int)] = bytesV (l ++ [hexd (s[i].toNat / 16), hexd (s[i].toNat % 16)]) := by simp [bytesV]
        rw [hv] at hown2
        have Hown2 := Lib.hid hown2
        have Hs : Hid (r = (l ++ [hexd (s[i].toNat / 16), hexd (s[i].toNat % 16)]) ++ hexed (rest s (i + 1))) := by
          show r = _
          rw [hu.out, Hrt.out]
          simp [hexed]
        have Hb2 := Lib.hid ((((hb.out.drewN' 1).alloc (by have := (hown.out.lt g rfl).2; simp; omega) _).grown hgr2 (by have := (hown.out.lt g rfl).2; simp; omega) (fun k hk => by simp at hk; omega)))
        clear hgr2 hown2 hv e1 e2
        go_wp2_with fail
        go_roundg (s.size - (i + 1))
        case measure => omega
        case rel => exact ⟨i + 1, j + 2, _, by omega, Nat.le_refl _, by go_num, rfl, by have := hij.out; exact (by omega : j + 2 = 2 * (i + 1)), Hown2.out, Hs.out, Hb2.out⟩
    · have Hc := Lib.hid (convert_own hown.out (Nat.le_refl _) (2 * s.size))
      have hc := Hc.out
      go_wp2_with fail
      go_ret
      refine ⟨?_, by have := hb.out; rw [Hg.out] at this; exact this⟩
      have hn : l.length = j := by have := hown.out.1; rw [bytesV_length] at this; omega
      rw [hu.out, rest_ge (by omega)]
      simp [hexed, strV, ← hn]
end Sy
end Go.Proofs.YthoealembhkaoaaGreatDoor
