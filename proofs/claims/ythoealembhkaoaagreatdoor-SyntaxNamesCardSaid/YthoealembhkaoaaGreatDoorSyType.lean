import Derived.Test.YthoealembhkaoaaGreatDoorSyLib
import Derived.Test.YthoealembhkaoaaGreatDoorSyBytes
import Derived.Test.YthoealembhkaoaaGreatDoorSyRd1
namespace Go.Proofs.YthoealembhkaoaaGreatDoor
open Go.RowKit
namespace Sy
set_option linter.unusedVariables false

def dot : ByteArray := ⟨#[46]⟩
/-- A number without a nought ahead. -/
def isNum (l : List UInt8) : Bool := digits l && !(decide (1 < l.length) && (l.head?.map (·.toNat) == some 48))
def isOid (l : List UInt8) : Bool := (Lib.split l [46]).all isNum && decide (1 < (Lib.split l [46]).length)
def isType (l : List UInt8) : Bool :=
  !l.isEmpty && decide (l.length ≤ 64) && (if (l.head?.any fun b => isLetter b.toNat) then l.all fun b => inType b.toNat && !decide ((b.toNat : Int) = 46) else isOid l)

theorem pieces_data (s : ByteArray) : (Lib.splitB dot 0 (Lib.countB s dot) s).map (·.data.toList) = Lib.split s.data.toList [46] := by
  rw [Lib.splitB_data]; rfl
theorem pieces_small (sep : ByteArray) : ∀ (k : Nat) (s : ByteArray), ∀ p ∈ Lib.splitB sep 0 k s, p.size ≤ s.size
  | 0, s, p, h => by simp only [Lib.splitB, List.mem_singleton] at h; rw [h]; exact Nat.le_refl _
  | k + 1, s, p, h => by
    unfold Lib.splitB at h
    split at h
    · simp only [List.mem_singleton] at h; rw [h]; exact Nat.le_refl _
    · rcases List.mem_cons.1 h with h | h
      · subst h; simp [ByteArray.size_extract]; omega
      · have := pieces_small sep k _ p h
        simp [ByteArray.size_extract] at this; omega
/-- One piece, as the code tests it. -/
def badNum (p : ByteArray) : Bool := !isNum p.data.toList

theorem isNum_no {p : ByteArray} (h : p.data.toList = []) : isNum p.data.toList = false := by rw [h]; rfl
theorem isNum_eq (p : ByteArray) : isNum p.data.toList = (!p.data.toList.isEmpty && !(decide (1 < p.data.toList.length) && (p.data.toList.head?.map (·.toNat) == some 48)) && (Lib.trimS p.data.toList digitSet.data.toList == [])) := by
  rw [trim_digits]; unfold isNum digits
  cases p.data.toList with
  | nil => rfl
  | cons a l => simp [Bool.and_comm]

set_option maxHeartbeats 1000000 in
theorem isOid_calls (s : ByteArray) (w : World) (hs : s.size < 4294967281) (he : Env w) :
    Calls Tryz.prog 68 #[.string s] w fun e w' => e = .returned (.bool (isOid s.data.toList)) ∧ Below w.heap.size w w' := by
  obtain ⟨m, hm⟩ := he.m
  have hc := Tryz.strings_Split s dot m w hs hm (by decide)
  have hiso : isOid s.data.toList = ((Lib.splitB dot 0 (Lib.countB s dot) s).all (fun p => isNum p.data.toList) && decide (1 < (Lib.splitB dot 0 (Lib.countB s dot) s).length)) := by
    unfold isOid; rw [← pieces_data, List.all_map]; simp [Function.comp_def]
  have hlen : (Lib.splitB dot 0 (Lib.countB s dot) s).length = Lib.countB s dot + 1 := Lib.splitB_all dot (by decide) 0 _ s rfl
  rw [hiso]
  have hsz := pieces_small dot (Lib.countB s dot) s
  have hn : Lib.countB s dot + 1 ≤ 4294967281 := by have := Lib.countB_le dot (by decide) _ s (Nat.le_refl _); omega
  generalize hps : Lib.splitB dot 0 (Lib.countB s dot) s = ps at *
  generalize Lib.countB s dot + 1 = n at *
  subst hlen
  clear hps hiso hm he
  have Hsz := Lib.hid hsz
  clear hsz
  go_enter Tryz.func68, Tryz.ntmps68
  go_wp2_with (go_at_call 117; refine hc.mono ?_; rintro e w1 ⟨rfl, rfl⟩)
  clear hc
  have hB0 : Below w.heap.size w (w.alloc (Obj.cells (List.map Value.string ps).toArray 9)) := (Below.refl _ _).alloc (Nat.le_refl _) _
  have hcell : ∀ k (h : k < ps.length), (w.alloc (Obj.cells (List.map Value.string ps).toArray 9)).cell? ⟨w.heap.size, k, none⟩ = some (.string ps[k]) := by
    intro k h
    rw [World.cell?_alloc_new]
    simp [h]
  have HB0 := Lib.hid hB0
  have Hcell := Lib.hid hcell
  clear hB0 hcell
  obtain ⟨w1, hw1⟩ : ∃ w1, w1 = w.alloc (Obj.cells (List.map Value.string ps).toArray 9) := ⟨_, rfl⟩
  rw [← hw1] at HB0 Hcell ⊢
  have hz : w.heap.size < w1.heap.size := by rw [hw1]; simp
  clear hw1
  go_loopg [10] ps.length (fun k v wr => ∃ j : Nat, j ≤ ps.length ∧ ps.length - j ≤ k ∧ v = .int .i64 j ∧ Hid (∀ p ∈ ps.take j, isNum p.data.toList = true) ∧ Hid (Below w1.heap.size w1 wr))
  case atStart => exact ⟨0, Nat.zero_le _, Nat.le_refl _, rfl, (fun p hp => by simp at hp), Below.refl _ _⟩
  case round =>
    obtain ⟨j, hj, hk, rfl, hall, hbr⟩ := hrel
    by_cases hlt : j < ps.length
    · have hcj : wr.cell? ⟨w.heap.size, j, none⟩ = some (.string ps[j]) := by rw [hbr.out.cell (p := ⟨w.heap.size, j, none⟩) hz]; exact Hcell.out j hlt
      have hpsz := Hsz.out ps[j] (List.getElem_mem hlt)
      have Hall : Hid (isNum ps[j].data.toList = true → ∀ p ∈ ps.take (j + 1), isNum p.data.toList = true) := by
        intro h p hp
        rw [List.take_succ_eq_append_getElem hlt, List.mem_append] at hp
        rcases hp with hp | hp
        · exact hall.out p hp
        · simp at hp; rw [hp]; exact h
      have Hno : Hid (isNum ps[j].data.toList = false → (ps.all (fun p => isNum p.data.toList)) = false) := by
        intro h
        rw [← Bool.not_eq_true, List.all_eq_true]
        intro hh
        rw [hh _ (List.getElem_mem hlt)] at h
        cases h
      generalize ps[j] = p at *
      have Hw : Hid (Below w.heap.size w wr) := HB0.out.trans (hbr.out.mono (by omega))
      have hret0 : ∀ wx : World, isNum p.data.toList = false → Below w.heap.size w wx → Ending.returned (.bool false) = .returned (.bool (ps.all (fun p => isNum p.data.toList) && decide (1 < ps.length))) ∧ Below w.heap.size w wx := fun _ h hb => ⟨by rw [Hno.out h]; rfl, hb⟩
      have Hret := Lib.hid hret0
      clear hret0
      by_cases hp0 : p.data.toList = []
      · have h2 := toList_nil p hp0
        have H0 := Lib.hid (isNum_no hp0)
        clear hp0
        go_wp2_with fail
        go_ret
        exact Hret.out _ H0.out Hw.out
      · have h2 := toList_ne p hp0
        have Hx := Lib.hid (isNum_eq p)
        have hcx := fun W => trim_calls p W (by omega)
        generalize hX : Lib.trimS p.data.toList digitSet.data.toList = x at *
        clear hX
        have hl : p.data.toList.length = p.size := by simp
        have hh : ∀ h : 0 < p.size, p.data.toList.head?.map (·.toNat) = some (p[0]'h).toNat := by
          intro h
          have : p.data.toList = p[0] :: p.data.toList.drop 1 := by
            have := rest_lt h; simpa [rest] using this
          rw [this]; rfl
        have HL := Lib.hid hl
        have HH := Lib.hid hh
        have HP := Lib.hid hp0
        clear hl hh hp0
        go_wp2_with (go_at_call 62; refine (hcx _).mono ?_; rintro e w2 ⟨rfl, hb2⟩)
        · have q1 : (1 : Int) < p.size := by assumption
          have q2 : 0 < p.size := by omega
          have q3 : ((p[0]'q2).toNat : Int) = 48 := by assumption
          go_ret
          refine Hret.out _ ?_ Hw.out
          rw [Hx.out, HL.out, HH.out q2]
          have : (p[0]'q2).toNat = 48 := by omega
          rw [this]
          have : 1 < p.size := by omega
          simp [this]
        · have q1 : (1 : Int) < p.size := by assumption
          have q2 : 0 < p.size := by omega
          have q3 : ¬ ((p[0]'q2).toNat : Int) = 48 := by assumption
          have q4 : ((p[0]'q2).toNat : Int) == 48 ∨ (!x.isEmpty) = true := by assumption
          go_ret
          refine Hret.out _ ?_ (Hw.out.trans (hb2.mono (by have := Hw.out.size; omega)))
          rw [Hx.out]
          rcases q4 with q4 | q4
          · exact absurd (beq_iff_eq.1 q4) q3
          · cases x with
            | nil => simp at q4
            | cons a l => simp
        · have q1 : (1 : Int) < p.size := by assumption
          have q2 : 0 < p.size := by omega
          have q3 : ¬ ((p[0]'q2).toNat : Int) = 48 := by assumption
          have q4 : (((p[0]'q2).toNat : Int) == 48) = false ∧ (!x.isEmpty) = false := by assumption
          go_roundg (ps.length - (j + 1))
          case measure => omega
          case rel =>
            refine ⟨j + 1, by omega, Nat.le_refl _, by go_num, Hall.out ?_, hbr.out.trans (hb2.mono hbr.out.size)⟩
            rw [Hx.out, HL.out, HH.out q2]
            obtain rfl : x = [] := by simpa using q4.2
            have q5 : ((p[0]'q2).toNat == 48) = false := by rw [beq_eq_false_iff_ne]; omega
            have q6 : p.data.toList.isEmpty = false := by simpa using HP.out
            simp [q6]
            omega
        · have q1 : (p.size : Int) ≤ 1 := by assumption
          have q4 : (!x.isEmpty) = true := by assumption
          go_ret
          refine Hret.out _ ?_ (Hw.out.trans (hb2.mono (by have := Hw.out.size; omega)))
          rw [Hx.out]
          cases x with
          | nil => simp at q4
          | cons a l => simp
        · have q1 : (p.size : Int) ≤ 1 := by assumption
          have q4 : (!x.isEmpty) = false := by assumption
          go_roundg (ps.length - (j + 1))
          case measure => omega
          case rel =>
            refine ⟨j + 1, by omega, Nat.le_refl _, by go_num, Hall.out ?_, hbr.out.trans (hb2.mono hbr.out.size)⟩
            rw [Hx.out, HL.out]
            obtain rfl : x = [] := by simpa using q4
            have q6 : p.data.toList.isEmpty = false := by simpa using HP.out
            simp [q6]
            omega
    · go_wp2_with fail
      go_ret
      refine ⟨ret_bool ?_, HB0.out.trans (hbr.out.mono (by omega))⟩
      have hje : j = ps.length := by omega
      have h := hall.out
      rw [hje, List.take_length] at h
      rw [List.all_eq_true.2 h, Bool.true_and, Bool.eq_iff_iff]
      simp
      omega
theorem isType_long {l : List UInt8} (h : ¬ l.length ≤ 64) : isType l = false := by simp [isType, h]
theorem isType_head {s : ByteArray} (h0 : 0 < s.size) (h1 : s.size ≤ 64) : isType s.data.toList = if isLetter ((s[0]'h0).toNat : Int) then s.data.toList.all (fun b => inType b.toNat && !decide ((b.toNat : Int) = 46)) else isOid s.data.toList := by
  have hr := rest_lt h0
  simp only [rest, List.drop_zero] at hr
  have hl : s.data.toList.length = s.size := by simp
  have he : s.data.toList.isEmpty = false := by rw [hr]; rfl
  have hh : s.data.toList.head? = some s[0] := by rw [hr]; rfl
  unfold isType
  rw [he, hh, hl]
  simp [h1]
theorem all_take {p : UInt8 → Bool} {s : ByteArray} {j : Nat} (h : j < s.size) (ha : ∀ b ∈ s.data.toList.take j, p b = true) (hb : p (s[j]'h) = true) : ∀ b ∈ s.data.toList.take (j + 1), p b = true := by
  intro b hm
  rw [List.take_succ_eq_append_getElem (by simpa using h), List.mem_append] at hm
  rcases hm with hm | hm
  · exact ha b hm
  · simp only [List.mem_singleton] at hm
    rw [hm]; exact hb
theorem all_no {p : UInt8 → Bool} {s : ByteArray} {j : Nat} (h : j < s.size) (hb : p (s[j]'h) = false) : s.data.toList.all p = false := by
  rw [← Bool.not_eq_true, List.all_eq_true]
  intro hh
  have := hh (s[j]'h) (by show s.data[j] ∈ s.data.toList; simp)
  rw [hb] at this
  cases this

set_option maxHeartbeats 1000000 in
theorem isType_calls (s : ByteArray) (w : World) (hs : s.size < 4294967281) (he : Env w) :
    Calls Tryz.prog 38 #[.string s] w fun e w' => e = .returned (.bool (isType s.data.toList)) ∧ Below w.heap.size w w' := by
  have hl : s.data.toList.length = s.size := by simp
  by_cases h0 : s.data.toList = []
  · have h2 := toList_nil s h0
    have hd : isType s.data.toList = false := by rw [h0]; rfl
    rw [hd]
    clear hd h0 hl
    go_enter Tryz.func38, Tryz.ntmps38
    go_wp2_with fail
    go_ret
    exact ⟨rfl, Below.refl _ _⟩
  have h2 := toList_ne s h0
  have hpos : 0 < s.size := by
    rw [← hl]; exact List.length_pos_iff.2 h0
  by_cases h64 : s.size ≤ 64
  · rw [isType_head hpos h64]
    clear h0 hl
    by_cases hlet : isLetter ((s[0]'hpos).toNat : Int) = true
    · rw [if_pos hlet]
      obtain ⟨r, hr⟩ : ∃ r, s.data.toList.all (fun b => inType b.toNat && !decide ((b.toNat : Int) = 46)) = r := ⟨_, rfl⟩
      rw [hr]
      have Hr := Lib.hid hr
      clear hr
      go_enter Tryz.func38, Tryz.ntmps38
      go_wp2_with (go_at_call 67; refine (isLetter_calls _ _).mono ?_; rintro e w' ⟨rfl, rfl⟩)
      go_loopg [21] s.size (fun k v wr => ∃ j : Nat, j ≤ s.size ∧ s.size - j ≤ k ∧ v = .int .i64 j ∧ Hid (∀ b ∈ s.data.toList.take j, (inType b.toNat && !decide ((b.toNat : Int) = 46)) = true) ∧ Hid (wr = w))
      case atStart => exact ⟨0, Nat.zero_le _, Nat.le_refl _, rfl, (fun p hp => by simp at hp), rfl⟩
      case round =>
        obtain ⟨j, hj, hk, rfl, hall, hw⟩ := hrel
        obtain rfl := hw.out
        by_cases hlt : j < s.size
        · by_cases ht : inType ((s[j]'hlt).toNat : Int) = true
          · by_cases h46 : ((s[j]'hlt).toNat : Int) = 46
            · have Hno := Lib.hid (all_no (p := fun b => inType b.toNat && !decide ((b.toNat : Int) = 46)) hlt (by simp [h46]))
              have h46' : (((s[j]'hlt).toNat : Int) == 46) = true := beq_iff_eq.2 h46
              clear h46
              go_wp2_with (go_at_call 69; refine (inType_calls _ _).mono ?_; rintro e w' ⟨rfl, rfl⟩)
              go_ret
              exact ⟨ret_bool (by rw [← Hr.out, Hno.out]), Below.refl _ _⟩
            · have Hall := Lib.hid (all_take (p := fun b => inType b.toNat && !decide ((b.toNat : Int) = 46)) hlt hall.out (by simp [ht]; simpa using h46))
              have h46' : (((s[j]'hlt).toNat : Int) == 46) = false := beq_eq_false_iff_ne.2 h46
              clear h46
              go_wp2_with (go_at_call 69; refine (inType_calls _ _).mono ?_; rintro e w' ⟨rfl, rfl⟩)
              go_roundg (s.size - (j + 1))
              case measure => omega
              case rel => exact ⟨j + 1, by omega, Nat.le_refl _, by go_num, Hall.out, rfl⟩
          · have Hno := Lib.hid (all_no (p := fun b => inType b.toNat && !decide ((b.toNat : Int) = 46)) hlt (by simp [ht]))
            have ht' : inType ((s[j]'hlt).toNat : Int) = false := by simpa using ht
            clear ht
            go_wp2_with (go_at_call 69; refine (inType_calls _ _).mono ?_; rintro e w' ⟨rfl, rfl⟩)
            go_ret
            exact ⟨ret_bool (by rw [← Hr.out, Hno.out]), Below.refl _ _⟩
        · go_wp2_with fail
          go_ret
          refine ⟨ret_bool ?_, Below.refl _ _⟩
          have hje : j = s.size := by omega
          have h := hall.out
          rw [List.take_of_length_le (by simp; omega)] at h
          rw [← Hr.out, List.all_eq_true.2 h]
    · have hlet' : isLetter ((s[0]'hpos).toNat : Int) = false := by simpa using hlet
      rw [if_neg hlet]
      clear hlet
      have he' := Lib.hid he
      clear he
      go_enter Tryz.func38, Tryz.ntmps38
      go_wp2_with (first | (go_at_call 67; refine (isLetter_calls _ _).mono ?_; rintro e w' ⟨rfl, rfl⟩) | (go_at_call 68; refine (isOid_calls _ _ hs he'.out).mono ?_; rintro e w1 ⟨rfl, hb⟩))
      go_ret
      exact ⟨rfl, hb⟩
  · rw [isType_long (by rw [hl]; exact h64)]
    clear h0 hl
    go_enter Tryz.func38, Tryz.ntmps38
    go_wp2_with fail
    go_ret
    exact ⟨rfl, Below.refl _ _⟩
end Sy
end Go.Proofs.YthoealembhkaoaaGreatDoor
