import Derived.Test.YthoealembhkaoaaGreatDoorSyNorm2
namespace Go.Proofs.YthoealembhkaoaaGreatDoor
open Go.RowKit
namespace Sy
set_option linter.unusedVariables false

theorem ofForm_calls (f : Form) (s : ByteArray) (p : Addr) (w : World) (hp : w.cell? p = some (.string s)) (he : Env w) (hs : s.size ≤ 9223372036854775807) :
    Calls Tryz.prog 73 #[.string f.word, .pointer (some p)] w fun e w' => e = .returned (.bool (f.ok s.data.toList)) ∧ Below w.heap.size w w' := by
  have hc := valid_calls f s w he hs
  generalize f.ok s.data.toList = b at *
  generalize f.word = fw at *
  go_enter Tryz.func73, Tryz.ntmps73
  go_wp2_with fail
  refine hc.mono ?_
  rintro e w1 ⟨rfl, hb⟩
  clear hc
  go_wp2_with fail
  go_ret
  exact ⟨rfl, hb⟩
set_option maxHeartbeats 1000000 in
theorem idxForm_calls (s : ByteArray) (p : Addr) (g n c : Nat) (fs : List Form) (w : World) (hp : w.cell? p = some (.string s)) (he : Env w) (hs : s.size ≤ 9223372036854775807)
    (hn : fs.length ≤ 2) (hf : ∀ k (h : k < fs.length), w.cell? ⟨g, k, none⟩ = some (.string fs[k].word)) :
    Calls Tryz.prog 119 #[.slice (some ⟨g, 0, none⟩) fs.length c, .func (.func 73) #[] #[.pointer (some p)]] w (Found (fs.any fun f => f.ok s.data.toList) w) := by
  have HP := Lib.hid hp
  have HE := Lib.hid he
  have HF := Lib.hid hf
  clear hp he hf
  obtain ⟨b, hb⟩ : ∃ b, (fs.any fun f => f.ok s.data.toList) = b := ⟨_, rfl⟩
  rw [hb]
  have Hb := Lib.hid hb
  clear hb
  have eg := enters_of (P := Tryz.prog) Tryz.func73 (by kernel_rfl) rfl
  go_enter Tryz.func119, Tryz.ntmps119
  go_wp2_with fail
  go_loopg [8] fs.length (fun k i wr => ∃ j : Nat, j ≤ fs.length ∧ fs.length - j ≤ k ∧ i = .int .i64 j ∧ Hid ((fs.take j).any (fun f => f.ok s.data.toList) = false) ∧ Hid (Below w.heap.size w wr))
  case atStart => exact ⟨0, Nat.zero_le _, Nat.le_refl _, rfl, rfl, Below.refl _ _⟩
  case round =>
    obtain ⟨j, hj, hk, rfl, hno, hbw⟩ := hrel
    by_cases hlt : j < fs.length
    · have h0 := HF.out j hlt
      have c0 : wr.cell? ⟨g, j, none⟩ = some (.string fs[j].word) := (hbw.out.cell (p := ⟨g, j, none⟩) (World.block_lt_of_cell? _ _ h0)).trans h0
      have cp : wr.cell? p = some (.string s) := (hbw.out.cell (World.block_lt_of_cell? _ _ HP.out)).trans HP.out
      have hcall := ofForm_calls fs[j] s p wr cp (HE.out.below hbw.out) hs
      have Hpos : Hid (fs[j].ok s.data.toList = true → b = true) := by
        intro h
        rw [← Hb.out]
        exact List.any_eq_true.2 ⟨_, List.getElem_mem hlt, h⟩
      have Hneg : Hid (fs[j].ok s.data.toList = false → (fs.take (j + 1)).any (fun f => f.ok s.data.toList) = false) := by
        intro h
        rw [List.take_succ_eq_append_getElem hlt, List.any_append, hno.out]
        simp [h]
      clear h0 cp
      generalize fs[j].ok s.data.toList = q at *
      generalize fs[j].word = fw at *
      go_wp2_with fail
      refine hcall.mono ?_
      rintro e w2 ⟨rfl, hb2⟩
      have Hb2 := Lib.hid (hbw.out.trans (hb2.mono hbw.out.size))
      clear hb2 c0 hcall
      cases q with
      | true =>
        go_wp2_with fail
        go_ret
        exact ⟨j, rfl, by rw [Hpos.out (by first | trivial | rfl)]; simp, Hb2.out⟩
      | false =>
        go_wp2_with fail
        go_roundg (fs.length - (j + 1))
        case measure => omega
        case rel => exact ⟨j + 1, by omega, Nat.le_refl _, by go_num, Hneg.out (by first | trivial | rfl), Hb2.out⟩
    · go_wp2_with fail
      go_ret
      refine ⟨-1, rfl, ?_, hbw.out⟩
      have := hno.out
      rw [List.take_of_length_le (by omega), Hb.out] at this
      rw [this]; rfl
set_option maxHeartbeats 1000000 in
theorem contForm_calls (s : ByteArray) (p : Addr) (g n c : Nat) (fs : List Form) (w : World) (hp : w.cell? p = some (.string s)) (he : Env w) (hs : s.size ≤ 9223372036854775807)
    (hn : fs.length ≤ 2) (hf : ∀ k (h : k < fs.length), w.cell? ⟨g, k, none⟩ = some (.string fs[k].word)) :
    Calls Tryz.prog 72 #[.slice (some ⟨g, 0, none⟩) fs.length c, .func (.func 73) #[] #[.pointer (some p)]] w fun e w' => e = .returned (.bool (fs.any fun f => f.ok s.data.toList)) ∧ Below w.heap.size w w' := by
  have hc := idxForm_calls s p g n c fs w hp he hs hn hf
  clear hp hf
  generalize (fs.any fun f => f.ok s.data.toList) = b at *
  go_enter Tryz.func72, Tryz.ntmps72
  go_wp2_with fail
  refine hc.mono ?_
  rintro e w1 ⟨n, rfl, hn, hb⟩
  have Hb := Lib.hid hb
  clear hb hc
  go_wp2_with fail
  go_ret
  exact ⟨by first | rfl | exact ret_bool hn, Hb.out⟩
end Sy
end Go.Proofs.YthoealembhkaoaaGreatDoor
