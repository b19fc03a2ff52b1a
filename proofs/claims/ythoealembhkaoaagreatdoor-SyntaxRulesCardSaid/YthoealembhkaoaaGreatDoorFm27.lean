import Derived.Test.YthoealembhkaoaaGreatDoorFm25
import Derived.Test.YthoealembhkaoaaGreatDoorFm26
import Derived.Test.YthoealembhkaoaaGreatDoorFm21
namespace Go.Proofs.YthoealembhkaoaaGreatDoor
open Go.RowKit
namespace Sy
set_option linter.unusedVariables false
set_option maxRecDepth 100000

/-- Texts lie in a row. -/
def StrsAt (w : World) (g : Nat) (l : List ByteArray) : Prop := ∀ j (h : j < l.length), w.cell? ⟨g, j, none⟩ = some (.string l[j])
theorem StrsAt.below {w w' : World} {g : Nat} {l : List ByteArray} (h : StrsAt w g l) (hb : Below w.heap.size w w') : StrsAt w' g l := fun j hj =>
  (hb.cell (World.block_lt_of_cell? _ _ (h j hj))).trans (h j hj)
theorem strs_new (w : World) (l : List ByteArray) (t : TypeId) : StrsAt (w.alloc (.cells (l.map Value.string).toArray t)) w.heap.size l := fun j hj => by
  have : (w.alloc (.cells (l.map Value.string).toArray t)).heap[w.heap.size]? = some (.cells (l.map Value.string).toArray t) := heap_alloc_new w _
  unfold World.cell?
  rw [this]
  simp [hj]
def eqNames : List ByteArray := [⟨#[111, 99, 116, 101, 116, 83, 116, 114, 105, 110, 103, 77, 97, 116, 99, 104]⟩, ⟨#[99, 97, 115, 101, 69, 120, 97, 99, 116, 77, 97, 116, 99, 104]⟩, ⟨#[99, 97, 115, 101, 73, 103, 110, 111, 114, 101, 77, 97, 116, 99, 104]⟩, ⟨#[105, 110, 116, 101, 103, 101, 114, 77, 97, 116, 99, 104]⟩, ⟨#[98, 111, 111, 108, 101, 97, 110, 77, 97, 116, 99, 104]⟩, ⟨#[100, 105, 115, 116, 105, 110, 103, 117, 105, 115, 104, 101, 100, 78, 97, 109, 101, 77, 97, 116, 99, 104]⟩, ⟨#[111, 98, 106, 101, 99, 116, 73, 100, 101, 110, 116, 105, 102, 105, 101, 114, 77, 97, 116, 99, 104]⟩, ⟨#[103, 101, 110, 101, 114, 97, 108, 105, 122, 101, 100, 84, 105, 109, 101, 77, 97, 116, 99, 104]⟩]
theorem equality_calls (w : World) : Calls Tryz.prog 20 #[] w fun e w' => e = .returned (.slice (some ⟨w.heap.size, 0, none⟩) 8 8) ∧ StrsAt w' w.heap.size eqNames ∧ Below w.heap.size w w' := by
  go_enter Tryz.func20, Tryz.ntmps20
  go_wp2_with fail
  go_ret
  exact ⟨rfl, strs_new w eqNames 9, alloc_below _ _⟩
theorem eq_ask : ∀ j (h : j < eqNames.length), ∃ b, askR (small eqNames[j].data.toList) 0 = some (b, .eq)
  | 0, _ => ⟨.octet, rfl⟩
  | 1, _ => ⟨.exact, rfl⟩
  | 2, _ => ⟨.ignore, rfl⟩
  | 3, _ => ⟨.integer, rfl⟩
  | 4, _ => ⟨.boolean, rfl⟩
  | 5, _ => ⟨.dn, rfl⟩
  | 6, _ => ⟨.oid, rfl⟩
  | 7, _ => ⟨.time, rfl⟩
  | j + 8, h => absurd h (by simp [eqNames])
theorem eq_size : ∀ j (h : j < eqNames.length), eqNames[j].size ≤ 9223372036854775807 := by
  intro j h
  have : ∀ n ∈ eqNames, n.size ≤ 9223372036854775807 := by decide
  exact this _ (List.getElem_mem h)
theorem normF_of {n : List UInt8} {b : Base} (h : askR (small n) 0 = some (b, .eq)) (v : List UInt8) : normF n v = match normB b v with | none => (none, 40) | some s => (some s, 0) := by
  unfold normF; rw [h]; rfl
theorem sameF_of {n : List UInt8} {b : Base} (h : askR (small n) 0 = some (b, .eq)) {x y s t : List UInt8} (hx : normB b x = some s) (hy : normB b y = some t) : sameF n x y = (s == t, 0) := by
  unfold sameF bothR; rw [h]; simp only [hx, hy]
set_option maxHeartbeats 4000000 in
theorem twice_go_calls (v : ByteArray) (w : World) (he : Env w) (hv : v.size ≤ 9223372036854775807) :
    Calls Tryz.prog 5 #[.string v] w fun e w' => e = .returned (.bool true) ∧ Below w.heap.size w w' := by
  have HE := Lib.hid he
  clear he
  go_enter Tryz.func5, Tryz.ntmps5
  go_wp2_with fail
  refine (equality_calls w).mono ?_
  rintro e w0 ⟨rfl, hs0, hb0⟩
  have HS := Lib.hid hs0
  have HB := Lib.hid hb0
  clear hs0 hb0
  go_wp2_with fail
  go_loopg [4] 8 (fun k iv wr => ∃ i : Nat, i ≤ 8 ∧ 8 - i ≤ k ∧ iv = .int .i64 i ∧ Hid (StrsAt wr w.heap.size eqNames) ∧ Hid (Below w.heap.size w wr))
  case atStart => exact ⟨0, Nat.zero_le _, Nat.le_refl _, rfl, HS.out, HB.out⟩
  case round =>
    obtain ⟨i, hi, hk, rfl, hst, hb⟩ := hrel
    by_cases hlt : i < 8
    · obtain ⟨b, hask⟩ := eq_ask i hlt
      have hsz := eq_size i hlt
      have c0 := hst.out i hlt
      generalize eqNames[i] = n at *
      have hn1 := norm_go_calls n v wr (HE.out.below hb.out) hsz hv
      have keep : ∀ W, Below wr.heap.size wr W → Below w.heap.size w W := fun W hW => hb.out.trans (hW.mono hb.out.size)
      rw [normF_of hask] at hn1
      cases hs : normB b v.data.toList with
      | none =>
        rw [hs] at hn1
        simp only [normFV, Option.getD, strV] at hn1
        clear hask hs
        go_wp2_with fail
        refine hn1.mono ?_
        rintro e w1 ⟨rfl, hb1⟩
        have HS1 := Lib.hid (hst.out.below hb1)
        have HB1 := Lib.hid (keep _ hb1)
        clear hn1 hb1 keep c0
        go_wp2_with fail
        go_roundg (8 - (i + 1))
        case measure => omega
        case rel => exact ⟨i + 1, by omega, Nat.le_refl _, by go_num, HS1.out, HB1.out⟩
      | some s =>
        rw [hs] at hn1
        simp only [normFV, Option.getD, strV] at hn1
        by_cases hl : s.length ≤ 1024
        · have hag := normB_again hs hl
          have hl' : ¬ (1024 : Int) < (s.length : Int) := by omega
          have h2 : ∀ W, Below wr.heap.size wr W → Calls Tryz.prog 15 #[.string n, .string ⟨s.toArray⟩] W _ := fun W hW => norm_go_calls n ⟨s.toArray⟩ W (HE.out.below (keep W hW)) hsz (by show s.toArray.size ≤ _; simp; omega)
          have h3 : ∀ W, Below wr.heap.size wr W → Calls Tryz.prog 17 #[.string n, .string v, .string ⟨s.toArray⟩] W _ := fun W hW => same_go_calls n v ⟨s.toArray⟩ W (HE.out.below (keep W hW)) hsz hv (by show s.toArray.size ≤ _; simp; omega)
          simp only [normF_of hask, hag, sameF_of hask hs hag] at h2 h3
          simp only [normFV, Option.getD, strV, sameFV, beq_self_eq_true] at h2 h3
          have H2 := Lib.hid h2
          have H3 := Lib.hid h3
          clear hask hs hag h2 h3
          go_wp2_with fail
          refine hn1.mono ?_
          rintro e w1 ⟨rfl, hb1⟩
          have d1 := (hb1.cell (World.block_lt_of_cell? _ _ c0)).trans c0
          have h2 := H2.out _ hb1
          clear hn1 c0 H2
          go_wp2_with fail
          refine h2.mono ?_
          rintro e w2 ⟨rfl, hb2⟩
          have d2 := (hb2.cell (World.block_lt_of_cell? _ _ d1)).trans d1
          have hb12 := hb1.trans (hb2.mono hb1.size)
          have h3 := H3.out _ hb12
          clear h2 d1 H3 hb1 hb2
          go_wp2_with fail
          refine h3.mono ?_
          rintro e w3 ⟨rfl, hb3⟩
          have hb13 := hb12.trans (hb3.mono hb12.size)
          have HS1 := Lib.hid (hst.out.below hb13)
          have HB1 := Lib.hid (keep _ hb13)
          clear h3 hb3 hb12 hb13 keep d2
          go_wp2_with fail
          go_roundg (8 - (i + 1))
          case measure => omega
          case rel => exact ⟨i + 1, by omega, Nat.le_refl _, by go_num, HS1.out, HB1.out⟩
        · have hl' : (1024 : Int) < (s.length : Int) := by omega
          clear hask hs
          go_wp2_with fail
          refine hn1.mono ?_
          rintro e w1 ⟨rfl, hb1⟩
          have HS1 := Lib.hid (hst.out.below hb1)
          have HB1 := Lib.hid (keep _ hb1)
          clear hn1 hb1 keep c0
          go_wp2_with fail
          go_roundg (8 - (i + 1))
          case measure => omega
          case rel => exact ⟨i + 1, by omega, Nat.le_refl _, by go_num, HS1.out, HB1.out⟩
    · have ei : i = 8 := by omega
      subst ei
      have hal := alive_calls wr (HE.out.below hb.out)
      go_wp2_with fail
      refine hal.mono ?_
      rintro e w1 ⟨rfl, hb1⟩
      have HB1 := Lib.hid (hb.out.trans (hb1.mono hb.out.size))
      clear hal hb1
      go_wp2_with fail
      go_ret
      exact ⟨rfl, HB1.out⟩
end Sy
end Go.Proofs.YthoealembhkaoaaGreatDoor
namespace Go.Proofs.YthoealembhkaoaaGreatDoor
open Go.RowKit
namespace Sy
set_option linter.unusedVariables false
set_option maxRecDepth 100000

set_option maxRecDepth 100000 in
set_option maxHeartbeats 4000000 in
theorem rLower_calls (s : ByteArray) (w : World) (hs : s.size ≤ 9223372036854775807) :
    Calls Tryz.prog 44 #[.string s] w fun e w' => e = .returned (strV (small s.data.toList)) ∧ Below w.heap.size w w' := by
  have hcv := run_bytes_of_string (P := Tryz.prog) w 9 88 5 s Tryz.underlying9 Tryz.underlying88 Tryz.underlying5
  have hB0 := BR.new w.drew s (grownCap w s.size 0 5)
  have hb0 : Below w.heap.size w (w.drew.alloc (.cells (bytesRow s (grownCap w s.size 0 5)) 5 ((bytesRow s (grownCap w s.size 0 5)).size, (bytesRow s (grownCap w s.size 0 5)).size + 1))) := (Below.refl _ _).drew.alloc (Nat.le_refl _) _
  obtain ⟨w1, hw1⟩ : ∃ w1, w1 = w.drew.alloc (.cells (bytesRow s (grownCap w s.size 0 5)) 5 ((bytesRow s (grownCap w s.size 0 5)).size, (bytesRow s (grownCap w s.size 0 5)).size + 1)) := ⟨_, rfl⟩
  rw [← hw1] at hcv hB0 hb0
  clear hw1
  generalize grownCap w s.size 0 5 = cap at *
  obtain ⟨g, hg⟩ : ∃ g, g = w.heap.size := ⟨_, rfl⟩
  rw [show w.drew.heap.size = g from hg.symm] at hB0
  rw [← hg] at hcv hb0 ⊢
  have HB := Lib.hid hB0
  have HW := Lib.hid hb0
  clear hg hB0 hb0
  go_enter Tryz.func44, Tryz.ntmps44
  go_wp2_with fail
  go_loopg [4] s.size (fun k iv wr => ∃ i : Nat, i ≤ s.size ∧ s.size - i ≤ k ∧ iv = .int .i64 i ∧ Hid (BR wr g (smallAt s.data.toList i)) ∧ Hid (Below g w wr))
  case atStart => exact ⟨0, Nat.zero_le _, Nat.le_refl _, rfl, by show BR _ _ _; simpa [smallAt] using HB.out, HW.out⟩
  case round =>
    obtain ⟨i, hi, hk, rfl, hb, hw⟩ := hrel
    have hsl : s.data.toList.length = s.size := by simp
    by_cases hlt : i < s.size
    · have hj : i < s.data.toList.length := by omega
      have hjl : i < (smallAt s.data.toList i).length := by rw [smallAt_length]; exact hj
      have c0 := hb.out.cell i hjl
      have f0 := hb.out.frozen i hjl
      rw [smallAt_get _ _ hj] at c0
      have hN := Lib.hid (smallAt_next s.data.toList i hj)
      have hS := fun h => Lib.hid (smallAt_same s.data.toList i hj h)
      have hset := fun x => Lib.hid (hb.out.set i hjl x)
      have hbl := byte_le (s.data.toList[i])
      generalize s.data.toList[i] = c at *
      by_cases hc : 65 ≤ c.toNat ∧ c.toNat ≤ 90
      · have q1 : (65 : Int) ≤ (c.toNat : Int) := by omega
        have q2 : (c.toNat : Int) ≤ 90 := by omega
        have hsm : smallB c = c + 32 := by simp [smallB, hc]
        have hv : ((c + 32 : UInt8).toNat : Int) = (c.toNat : Int) + 32 := by
          have : (c + 32 : UInt8).toNat = c.toNat + 32 := by rw [UInt8.toNat_add]; simp; omega
          omega
        have B2 : Hid (BR (wr.setCell ⟨g, i, none⟩ (.int .u8 ((c.toNat : Int) + 32))) g (smallAt s.data.toList (i + 1))) := by
          have := (hset (c + 32)).out
          rw [hv, ← hsm, hN.out] at this
          exact this
        have W2 : Hid (Below g w (wr.setCell ⟨g, i, none⟩ (.int .u8 ((c.toNat : Int) + 32)))) := hw.out.setCell (Nat.le_refl _) _
        clear hset hN hS hsm hv
        go_wp2_with fail
        go_roundg (s.size - (i + 1))
        case measure => omega
        case rel => exact ⟨i + 1, by omega, Nat.le_refl _, by go_num, B2.out, W2.out⟩
      · have hsm : smallB c = c := by simp [smallB, hc]
        have B2 : Hid (BR wr g (smallAt s.data.toList (i + 1))) := by
          have := hb.out
          rw [(hS hsm).out] at this
          exact this
        clear hset hN hS hsm
        by_cases q1 : (65 : Int) ≤ (c.toNat : Int)
        · have q2 : ¬ (c.toNat : Int) ≤ 90 := by omega
          go_wp2_with fail
          go_roundg (s.size - (i + 1))
          case measure => omega
          case rel => exact ⟨i + 1, by omega, Nat.le_refl _, by go_num, B2.out, hw.out⟩
        · go_wp2_with fail
          go_roundg (s.size - (i + 1))
          case measure => omega
          case rel => exact ⟨i + 1, by omega, Nat.le_refl _, by go_num, B2.out, hw.out⟩
    · have hcv2 := hb.out.back cap
      rw [smallAt_length, hsl] at hcv2
      have he : smallAt s.data.toList i = small s.data.toList := by
        simp only [smallAt, small]
        rw [List.take_of_length_le (by omega), List.drop_of_length_le (by omega)]; simp
      have He := Lib.hid he
      clear he
      go_wp2_with fail
      go_ret
      exact ⟨by rw [He.out]; rfl, hw.out⟩
/-- All rules, as the reference lists them. -/
def ruleList : List (Base × Kd) := [(.octet, .eq), (.exact, .eq), (.ignore, .eq), (.integer, .eq), (.boolean, .eq), (.dn, .eq), (.oid, .eq), (.time, .eq), (.octet, .ord), (.exact, .ord), (.ignore, .ord), (.integer, .ord), (.time, .ord), (.exact, .sub), (.ignore, .sub)]
def ruleNames : List ByteArray := [⟨#[111, 99, 116, 101, 116, 83, 116, 114, 105, 110, 103, 77, 97, 116, 99, 104]⟩, ⟨#[99, 97, 115, 101, 69, 120, 97, 99, 116, 77, 97, 116, 99, 104]⟩, ⟨#[99, 97, 115, 101, 73, 103, 110, 111, 114, 101, 77, 97, 116, 99, 104]⟩, ⟨#[105, 110, 116, 101, 103, 101, 114, 77, 97, 116, 99, 104]⟩, ⟨#[98, 111, 111, 108, 101, 97, 110, 77, 97, 116, 99, 104]⟩, ⟨#[100, 105, 115, 116, 105, 110, 103, 117, 105, 115, 104, 101, 100, 78, 97, 109, 101, 77, 97, 116, 99, 104]⟩, ⟨#[111, 98, 106, 101, 99, 116, 73, 100, 101, 110, 116, 105, 102, 105, 101, 114, 77, 97, 116, 99, 104]⟩, ⟨#[103, 101, 110, 101, 114, 97, 108, 105, 122, 101, 100, 84, 105, 109, 101, 77, 97, 116, 99, 104]⟩, ⟨#[111, 99, 116, 101, 116, 83, 116, 114, 105, 110, 103, 79, 114, 100, 101, 114, 105, 110, 103, 77, 97, 116, 99, 104]⟩, ⟨#[99, 97, 115, 101, 69, 120, 97, 99, 116, 79, 114, 100, 101, 114, 105, 110, 103, 77, 97, 116, 99, 104]⟩, ⟨#[99, 97, 115, 101, 73, 103, 110, 111, 114, 101, 79, 114, 100, 101, 114, 105, 110, 103, 77, 97, 116, 99, 104]⟩, ⟨#[105, 110, 116, 101, 103, 101, 114, 79, 114, 100, 101, 114, 105, 110, 103, 77, 97, 116, 99, 104]⟩, ⟨#[103, 101, 110, 101, 114, 97, 108, 105, 122, 101, 100, 84, 105, 109, 101, 79, 114, 100, 101, 114, 105, 110, 103, 77, 97, 116, 99, 104]⟩, ⟨#[99, 97, 115, 101, 69, 120, 97, 99, 116, 83, 117, 98, 115, 116, 114, 105, 110, 103, 115, 77, 97, 116, 99, 104]⟩, ⟨#[99, 97, 115, 101, 73, 103, 110, 111, 114, 101, 83, 117, 98, 115, 116, 114, 105, 110, 103, 115, 77, 97, 116, 99, 104]⟩]
theorem ruleNames_eq : ruleNames = ruleList.map fun e => e.1.word ++ e.2.word := by decide
theorem ruleList_eq : ruleList = (entries allBases).filter (fun e => decide (e.2.num = 0)) ++ ((entries allBases).filter (fun e => decide (e.2.num = 1)) ++ (entries allBases).filter (fun e => decide (e.2.num = 2))) := by rfl
def hasName (x : List UInt8) (e : Base × Kd) : Bool := decide (small (e.1.word ++ e.2.word).data.toList = x)
theorem ruleIn_eq (x : List UInt8) (c : Int) (bs : List Base) : ruleIn bs (x, c) = ((entries bs).filter (fun e => decide (e.2.num = c))).find? (hasName x) := by
  unfold ruleIn
  rw [List.find?_filter]
  congr 1
  funext e
  unfold keyOf hasName
  rw [Bool.eq_iff_iff]
  simp [Prod.ext_iff, and_comm]
theorem ruleOf_find (x : List UInt8) : ruleOf x = ruleList.find? (hasName x) := by
  rw [ruleList_eq, List.find?_append, List.find?_append]
  unfold ruleOf
  rw [ruleIn_eq, ruleIn_eq, ruleIn_eq]
theorem rRules_calls (w : World) : Calls Tryz.prog 14 #[] w fun e w' => e = .returned (.slice (some ⟨w.heap.size, 0, none⟩) 15 15) ∧ StrsAt w' w.heap.size ruleNames ∧ Below w.heap.size w w' := by
  go_enter Tryz.func14, Tryz.ntmps14
  go_wp2_with fail
  go_ret
  exact ⟨rfl, strs_new w ruleNames 9, alloc_below _ _⟩
/-- What the reference's Rule answers. -/
def ruleRV : Option (Base × Kd) → Value
  | none => .tuple #[.string ⟨#[]⟩, .int .i64 0]
  | some (b, kd) => .tuple #[.string (b.word ++ kd.word), .int .i64 kd.num]
theorem rule_at : ∀ j (h : j < 15), ∃ b kd, ruleList[j]? = some (b, kd) ∧ ruleNames[j]? = some (b.word ++ kd.word) ∧ kd.num = (if j < 8 then 0 else if j < 13 then 1 else 2) ∧ (b.word ++ kd.word).size ≤ 40 := by
  intro j h
  have hl : ∃ e, ruleList[j]? = some e := ⟨ruleList[j]'h, List.getElem?_eq_getElem _⟩
  obtain ⟨⟨b, kd⟩, he⟩ := hl
  refine ⟨b, kd, he, ?_, ?_, ?_⟩
  · rw [ruleNames_eq, List.getElem?_map, he]; rfl
  · have : ∀ j : Fin 15, ((ruleList[j.val]?).map fun e => e.2.num) = some (if j.val < 8 then 0 else if j.val < 13 then 1 else 2) := by decide
    have := this ⟨j, h⟩
    rw [he] at this
    simpa using this
  · have : ∀ n ∈ ruleNames, n.size ≤ 40 := by decide
    refine this _ ?_
    rw [ruleNames_eq]
    exact List.mem_map.2 ⟨(b, kd), List.mem_of_getElem? he, rfl⟩
set_option maxHeartbeats 4000000 in
theorem rRule_calls (s : ByteArray) (w : World) (hs : s.size ≤ 9223372036854775807) :
    Calls Tryz.prog 27 #[.string s] w fun e w' => e = .returned (ruleRV (ruleOf (small s.data.toList))) ∧ Below w.heap.size w w' := by
  rw [ruleOf_find]
  obtain ⟨r, hr⟩ : ∃ r, ruleList.find? (hasName (small s.data.toList)) = r := ⟨_, rfl⟩
  rw [hr]
  have Hr := Lib.hid hr
  have hlow := fun W => rLower_calls s W hs
  have hsl : (small s.data.toList).length = s.size := by simp [small]
  obtain ⟨x, hx⟩ : ∃ x, small s.data.toList = x := ⟨_, rfl⟩
  rw [hx] at hlow Hr
  clear hr hx hsl
  simp only [strV] at hlow
  go_enter Tryz.func27, Tryz.ntmps27
  go_wp2_with fail
  refine (rRules_calls w).mono ?_
  rintro e w0 ⟨rfl, hs0, hb0⟩
  have HS := Lib.hid hs0
  have HB := Lib.hid hb0
  clear hs0 hb0
  go_wp2_with fail
  go_loopg [5] 15 (fun k iv wr => ∃ i : Nat, i ≤ 15 ∧ 15 - i ≤ k ∧ iv = .int .i64 i ∧ Hid ((ruleList.take i).find? (hasName x) = none) ∧ Hid (StrsAt wr w.heap.size ruleNames) ∧ Hid (Below w.heap.size w wr))
  case atStart => exact ⟨0, Nat.zero_le _, Nat.le_refl _, rfl, rfl, HS.out, HB.out⟩
  case round =>
    obtain ⟨i, hi, hk, rfl, hno, hst, hb⟩ := hrel
    by_cases hlt : i < 15
    · obtain ⟨b, kd, h1, h2, h3, h4⟩ := rule_at i hlt
      have c0 : wr.cell? ⟨w.heap.size, i, none⟩ = some (.string (b.word ++ kd.word)) := by
        have := hst.out i hlt
        rw [this]
        have h5 : ruleNames[i]'hlt = b.word ++ kd.word := by
          rw [List.getElem?_eq_getElem hlt] at h2
          injection h2
        rw [h5]
      have htk : ruleList.take (i + 1) = ruleList.take i ++ [(b, kd)] := by rw [List.take_add_one, h1]; rfl
      have hdr : ruleList = ruleList.take i ++ (b, kd) :: ruleList.drop (i + 1) := by
        have hl : i < ruleList.length := hlt
        have h5 : ruleList[i]'hl = (b, kd) := by
          rw [List.getElem?_eq_getElem hl] at h1
          injection h1
        rw [← h5, ← List.drop_eq_getElem_cons hl, List.take_append_drop]
      have hln := fun W => rLower_calls (b.word ++ kd.word) W (by omega)
      have Hyes : Hid (hasName x (b, kd) = true → r = some (b, kd)) := fun h => by
        rw [← Hr.out, hdr, List.find?_append, hno.out, List.find?_cons, h]; rfl
      have Hnext : Hid (hasName x (b, kd) = false → (ruleList.take (i + 1)).find? (hasName x) = none) := fun h => by
        rw [htk, List.find?_append, hno.out, List.find?_cons, h]; rfl
      have hhn : hasName x (b, kd) = (small (b.word ++ kd.word).data.toList == x) := by
        unfold hasName
        rw [Bool.eq_iff_iff]; simp
      have H3 := Lib.hid h3
      clear h1 h2 h3 h4 htk hdr
      simp only [strV] at hln
      generalize small (b.word ++ kd.word).data.toList = y at *
      cases hyx : (y == x) with
      | true =>
        have HR : Hid (r = some (b, kd)) := Hyes.out (by rw [hhn, hyx])
        have hyx' : y = x := by simpa using hyx
        clear Hyes Hnext hhn hyx
        subst hyx'
        go_wp2_with fail
        refine (hln _).mono ?_
        rintro e w1 ⟨rfl, hb1⟩
        have hb1' := hb.out.trans (hb1.mono hb.out.size)
        have d1 := (hb1.cell (World.block_lt_of_cell? _ _ c0)).trans c0
        clear c0 hln hb1
        go_wp2_with fail
        refine (hlow _).mono ?_
        rintro e w2 ⟨rfl, hb2⟩
        have HB2 := Lib.hid (hb1'.trans (hb2.mono hb1'.size))
        have d2 := (hb2.cell (World.block_lt_of_cell? _ _ d1)).trans d1
        clear d1 hlow hb2 hb1'
        by_cases h8 : i < 8
        · have hn : kd.num = 0 := by rw [H3.out, if_pos h8]
          have HN := Lib.hid hn
          clear hn
          go_wp2_with fail
          go_ret2
          exact ⟨by rw [HR.out]; show _ = Ending.returned (.tuple #[.string (b.word ++ kd.word), .int .i64 kd.num]); rw [HN.out]; rfl, HB2.out⟩
        · by_cases h13 : i < 13
          · have hn : kd.num = 1 := by rw [H3.out, if_neg h8, if_pos h13]
            have HN := Lib.hid hn
            clear hn
            go_wp2_with fail
            go_ret2
            exact ⟨by rw [HR.out]; show _ = Ending.returned (.tuple #[.string (b.word ++ kd.word), .int .i64 kd.num]); rw [HN.out]; rfl, HB2.out⟩
          · have hn : kd.num = 2 := by rw [H3.out, if_neg h8, if_neg h13]
            have HN := Lib.hid hn
            clear hn
            go_wp2_with fail
            go_ret2
            exact ⟨by rw [HR.out]; show _ = Ending.returned (.tuple #[.string (b.word ++ kd.word), .int .i64 kd.num]); rw [HN.out]; rfl, HB2.out⟩
      | false =>
        have HN : Hid ((ruleList.take (i + 1)).find? (hasName x) = none) := Hnext.out (by rw [hhn, hyx])
        clear Hyes Hnext hhn
        go_wp2_with fail
        refine (hln _).mono ?_
        rintro e w1 ⟨rfl, hb1⟩
        have hb1' := hb.out.trans (hb1.mono hb.out.size)
        have HS1 := hst.out.below hb1
        clear c0 hln hb1 hst hb
        go_wp2_with fail
        refine (hlow _).mono ?_
        rintro e w2 ⟨rfl, hb2⟩
        have HB2 := Lib.hid (hb1'.trans (hb2.mono hb1'.size))
        have HS2 := Lib.hid (HS1.below hb2)
        clear HS1 hb2 hb1'
        go_wp2_with fail
        go_roundg (15 - (i + 1))
        case measure => omega
        case rel => exact ⟨i + 1, by omega, Nat.le_refl _, by go_num, HN.out, HS2.out, HB2.out⟩
    · have hN : r = none := by
        have := hno.out
        rw [List.take_of_length_le (by show 15 ≤ i; omega)] at this
        rw [← Hr.out, this]
      have HN := Lib.hid hN
      clear hN
      go_wp2_with fail
      go_ret2
      exact ⟨by rw [HN.out]; rfl, hb.out⟩
end Sy
end Go.Proofs.YthoealembhkaoaaGreatDoor
namespace Go.Proofs.YthoealembhkaoaaGreatDoor
open Go.RowKit
namespace Sy
set_option linter.unusedVariables false
set_option maxRecDepth 100000

def above : List UInt8 := [49, 46, 51, 46, 54, 46, 49, 46, 52, 46, 49, 46, 49, 52, 54, 54, 46, 49, 49, 53, 46, 49, 50, 49, 46, 49, 46]
def formN (n : List UInt8) : Option Form := if n = [52, 48] then some .octets else if n = [49, 53] then some .text else if n = [50, 54] then some .ascii else if n = [50, 55] then some .integer else if n = [55] then some .boolean else if n = [49, 50] then some .name else if n = [51, 56] then some .oid else if n = [50, 52] then some .time else none
/-- The form of a number. -/
def formR (l : List UInt8) : Option Form := if Lib.hasPrefix l above then formN (Lib.trimPrefix l above) else none
def formFV : Option Form → Value
  | some f => .tuple #[.string f.word, .int .i64 0]
  | none => .tuple #[.string ⟨#[]⟩, .int .i64 52]
def formRV : Option Form → Value
  | some f => .string f.word
  | none => .string ⟨#[]⟩
set_option maxHeartbeats 2000000 in
theorem form_calls (s : ByteArray) (w : World) (hs : s.size ≤ 9223372036854775807) :
    Calls Tryz.prog 24 #[.string s] w fun e w' => e = .returned (formFV (formR s.data.toList)) ∧ w' = w := by
  have hc := Tryz.strings_CutPrefix s ⟨above.toArray⟩ w
  unfold formR
  simp only at hc
  generalize Lib.hasPrefix s.data.toList above = pre at *
  generalize Lib.trimPrefix s.data.toList above = n at *
  cases pre with
  | false =>
    rw [if_neg (by simp)]
    simp only [above] at hc
    go_enter Tryz.func24, Tryz.ntmps24
    go_wp2_with fail
    refine hc.mono ?_
    rintro e w1 ⟨rfl, rfl⟩
    clear hc
    go_wp2_with fail
    go_ret2
    exact ⟨rfl, rfl⟩
  | true =>
    rw [if_pos rfl]
    simp only [above] at hc
    go_enter Tryz.func24, Tryz.ntmps24
    go_wp2_with fail
    refine hc.mono ?_
    rintro e w1 ⟨rfl, rfl⟩
    clear hc
    go_wp2_with fail
    all_goals go_ret2
    all_goals refine ⟨?_, rfl⟩
    all_goals (unfold formN)
    all_goals (subst_vars; first | rfl | (simp_all [formFV, Form.word]; done))
theorem form_short {l : List UInt8} (h : l.length ≤ 27) : formR l = none := by
  unfold formR
  split
  · rename_i hp
    unfold Lib.trimPrefix
    rw [if_pos hp]
    have h2 : l.drop above.length = [] := List.drop_of_length_le (by show l.length ≤ 27; exact h)
    rw [h2]; rfl
  · rfl
theorem prefix_take (l : List UInt8) (h : 27 < l.length) : Lib.hasPrefix l above = (l.take 27 == above) := by
  unfold Lib.hasPrefix
  rw [Bool.eq_iff_iff, List.isPrefixOf_iff_prefix, List.prefix_iff_eq_take, beq_iff_eq]
  exact ⟨fun h => h.symm, fun h => h.symm⟩
set_option maxHeartbeats 2000000 in
theorem rForm_calls (s : ByteArray) (w : World) (hs : s.size ≤ 9223372036854775807) :
    Calls Tryz.prog 25 #[.string s] w fun e w' => e = .returned (formRV (formR s.data.toList)) ∧ w' = w := by
  have hl : s.data.toList.length = s.size := by simp
  by_cases h27 : s.size ≤ 27
  · rw [form_short (by omega)]
    have h' : (s.size : Int) ≤ 27 := by omega
    clear hl
    go_enter Tryz.func25, Tryz.ntmps25
    go_wp2_with fail
    go_ret
    exact ⟨rfl, rfl⟩
  · have h' : ¬ (s.size : Int) ≤ 27 := by omega
    have p1 : (27 : Int) ≤ (s.size : Int) := by omega
    have hp := prefix_take s.data.toList (by omega)
    have e1 : (s.extract 0 27).toList = s.data.toList.take 27 := by rw [ByteArray.toList_eq, Lib.extract_data]; simp
    have e2 : (s.extract 27 s.size).toList = s.data.toList.drop 27 := by rw [ByteArray.toList_eq, Lib.extract_data, List.take_of_length_le (by simp)]
    unfold formR
    rw [hp]
    obtain ⟨b, hb⟩ : ∃ b, (s.data.toList.take 27 == above) = b := ⟨_, rfl⟩
    rw [hb]
    rw [← e1] at hb
    cases b with
    | false =>
      rw [if_neg (by simp)]
      unfold above at hb
      have hb' : ¬ (s.extract 0 27).toList = [49, 46, 51, 46, 54, 46, 49, 46, 52, 46, 49, 46, 49, 52, 54, 54, 46, 49, 49, 53, 46, 49, 50, 49, 46, 49, 46] := by simpa using hb
      clear hp e1 e2 hl
      go_enter Tryz.func25, Tryz.ntmps25
      go_wp2_with fail
      go_ret
      exact ⟨rfl, rfl⟩
    | true =>
      rw [if_pos rfl]
      have ht : Lib.trimPrefix s.data.toList above = s.data.toList.drop 27 := by
        unfold Lib.trimPrefix
        rw [hp, ← e1, hb]; rfl
      rw [ht, ← e2]
      unfold above at hb
      have hb' : (s.extract 0 27).toList = [49, 46, 51, 46, 54, 46, 49, 46, 52, 46, 49, 46, 49, 52, 54, 54, 46, 49, 49, 53, 46, 49, 50, 49, 46, 49, 46] := by simpa using hb
      have hE : (⟨(s.extract 27 s.size).toList.toArray⟩ : ByteArray) = s.extract 27 s.size := by rw [ByteArray.toList_eq]
      clear hp e1 e2 hl ht
      go_enter Tryz.func25, Tryz.ntmps25
      go_wp2_with fail
      all_goals go_ret
      all_goals refine ⟨?_, rfl⟩
      all_goals clear hb hb' hE
      all_goals generalize (s.extract 27 s.size).toList = n at *
      all_goals (unfold formN)
      all_goals (subst_vars; first | rfl | (simp_all [formRV, Form.word]; done))
end Sy
end Go.Proofs.YthoealembhkaoaaGreatDoor
