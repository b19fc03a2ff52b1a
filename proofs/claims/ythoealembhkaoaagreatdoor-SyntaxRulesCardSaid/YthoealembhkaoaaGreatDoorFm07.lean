import Derived.Test.YthoealembhkaoaaGreatDoorFm04
namespace Go.Proofs.YthoealembhkaoaaGreatDoor
open Go.RowKit
namespace Sy
set_option linter.unusedVariables false

/-- The characters of a value: what has been read, how much of it counts, what is left. -/
def valL : Nat → List UInt8 → Nat → List UInt8 → Option (List UInt8 × List UInt8)
  | 0, b, k, l => some (b.take k, l)
  | _ + 1, b, k, [] => some (b.take k, [])
  | n + 1, b, k, c :: l =>
    if c = 44 ∨ c = 43 then some (b.take k, c :: l)
    else if c = 92 then
      match escR l with
      | some (x, l') => valL n (b ++ [x]) (b.length + 1) l'
      | none => none
    else if c = 0 ∨ special.data.toList.contains c = true then none
    else valL n (b ++ [c]) (if c = 32 then k else b.length + 1) l
def valueR : List UInt8 → Option (List UInt8 × List UInt8)
  | 35 :: l => hexR l
  | l => valL (l.length + 1) [] 0 l
theorem valueR_hash {l : List UInt8} (h : isAt 35 l = true) : valueR l = hexR (l.drop 1) := by
  cases l with
  | nil => cases h
  | cons a l =>
    simp only [isAt, beq_iff_eq] at h
    have : a = 35 := by apply UInt8.toNat_inj.1; show a.toNat = 35; omega
    subst this; rfl
theorem valueR_plain {l : List UInt8} (h : isAt 35 l = false) : valueR l = valL (l.length + 1) [] 0 l := by
  unfold valueR
  split
  · rename_i l'; simp [isAt] at h
  · rfl
theorem u8_eq {b : UInt8} {n : Nat} (hn : n < 256) (h : (b.toNat : Int) = (n : Int)) : b = UInt8.ofNat n := by
  apply UInt8.toNat_inj.1
  simp; omega

theorem valL_end {n : Nat} {b l : List UInt8} {k : Nat} (hn : l.length < n) (h : l = [] ∨ isAt 44 l = true ∨ isAt 43 l = true) : valL n b k l = some (b.take k, l) := by
  obtain ⟨n, rfl⟩ : ∃ m, n = m + 1 := ⟨n - 1, by omega⟩
  cases l with
  | nil => rfl
  | cons c l =>
    rcases h with h | h | h
    · cases h
    · have : c = 44 := u8_eq (n := 44) (by omega) (beq_iff_eq.1 h)
      simp [valL, this]
    · have : c = 43 := u8_eq (n := 43) (by omega) (beq_iff_eq.1 h)
      simp [valL, this]
theorem isAt_no {c : Int} {a : UInt8} {l : List UInt8} {m : Nat} (hm : m < 256) (h : isAt (m : Int) (a :: l) = false) : a ≠ UInt8.ofNat m := by
  intro e
  subst e
  simp [isAt] at h
  omega
theorem valL_step {n : Nat} {b l : List UInt8} {k : Nat} {c : UInt8} (hn : (c :: l).length < n) (h1 : isAt 44 (c :: l) = false) (h2 : isAt 43 (c :: l) = false) :
    ∃ m, l.length < m ∧ valL n b k (c :: l) = if c = 92 then
      match escR l with
      | some (x, l') => valL m (b ++ [x]) (b.length + 1) l'
      | none => none
    else if c = 0 ∨ special.data.toList.contains c = true then none
    else valL m (b ++ [c]) (if c = 32 then k else b.length + 1) l := by
  obtain ⟨n, rfl⟩ : ∃ m, n = m + 1 := ⟨n - 1, by omega⟩
  refine ⟨n, by simp at hn; omega, ?_⟩
  have a1 : ¬ (c = 44 ∨ c = 43) := by
    rintro (h | h)
    · subst h; cases h1
    · subst h; cases h2
  simp only [valL, a1, if_false]
theorem escR_shorter {l : List UInt8} {x : UInt8} {l' : List UInt8} (h : escR l = some (x, l')) : l'.length < l.length := by
  cases l with
  | nil => cases h
  | cons c l =>
    rw [escR_cons] at h
    split at h
    · injection h with h; injection h with h1 h2; subst h2; simp
    · cases l with
      | nil => cases h
      | cons d l =>
        simp only at h
        split at h
        · cases h
        · injection h with h; injection h with h1 h2; subst h2; simp; omega

theorem own_heap {W W' : World} {base : Nat} {e : TypeId} {size n : Nat} {v : Value} {xs : List Value} (h : W.ownsRow base e size v n xs) (hh : W'.heap = W.heap) : W'.ownsRow base e size v n xs := by
  unfold World.ownsRow at h ⊢
  rw [hh]
  exact h
theorem own_ne {W : World} {base : Nat} {e : TypeId} {size n B : Nat} {v : Value} {xs : List Value} (h : W.ownsRow base e size v n xs) (hB : B < base) : v.ownBlock = none ∨ v.ownBlock ≠ some B := by
  cases hv : v.ownBlock with
  | none => exact .inl rfl
  | some g =>
    have := (h.lt g hv).1
    exact .inr (fun e => by injection e with e; omega)
theorem own_base_le {W : World} {base : Nat} {e : TypeId} {size n : Nat} {v : Value} {xs : List Value} (h : W.ownsRow base e size v n xs) : ∀ k, v.ownBlock = some k → base ≤ k := fun k hk => (h.lt k hk).1
theorem own_slice {W : World} {base : Nat} {e : TypeId} {size n : Nat} {v : Value} {xs : List Value} (h : W.ownsRow base e size v n xs) : ∃ a c, v = .slice a n c := by
  rcases h.2 with ⟨rfl, rfl⟩ | ⟨g, cap, cur, rfl, _⟩
  · exact ⟨_, _, rfl⟩
  · exact ⟨_, _, rfl⟩
theorem rd_alloc {W : World} {B : Nat} {s : ByteArray} {j : Nat} (h : Rd W B s j) (o : Obj) : Rd (W.alloc o) B s j := ⟨by rw [Below.heap_alloc _ _ _ h.lt]; exact h.heap⟩
theorem rd_grown {W W' : World} {B : Nat} {s : ByteArray} {j : Nat} {v : Value} (h : Rd W B s j) (hg : W.grownBy W' v.ownBlock) (hne : v.ownBlock = none ∨ v.ownBlock ≠ some B) : Rd W' B s j := by
  refine ⟨?_⟩
  rw [hg.block B h.lt (by rcases hne with h | h
                          · rw [h]; simp
                          · exact fun e => h e.symm)]
  exact h.heap
theorem gr_alloc (B : Nat) (W : World) (o : Obj) : Gr B W (W.alloc o) := Gr.of_below B ((Below.refl _ _).alloc (Nat.le_refl _) o)
theorem gr_grown {w W W' : World} {B : Nat} {r : Option Nat} (h : Gr B w W) (hg : W.grownBy W' r) (hs : w.heap.size ≤ W.heap.size) (hr : ∀ k, r = some k → w.heap.size ≤ k) : Gr B w W' :=
  ⟨hg.os.trans h.os, hg.tape.trans h.tape, hg.output.trans h.output, Nat.le_trans hs hg.size, fun k hk hne => (hg.block k (by omega) (fun e => by have := hr k e.symm; omega)).trans (h.block k hk hne)⟩
theorem Moved.after {B : Nat} {s : ByteArray} {l : List UInt8} {w w1 w2 : World} (h : Moved B s l w1 w2) (hg : Gr B w w1) : Moved B s l w w2 := by
  obtain ⟨j, hj, hl, hR, hG⟩ := h
  exact ⟨j, hj, hl, hR, hg.trans hG⟩

set_option maxRecDepth 100000 in
set_option maxHeartbeats 4000000 in
theorem value_calls (w : World) (B : Nat) (s : ByteArray) (i : Nat) (hr : Rd w B s i) (hi : i ≤ s.size) (hs : s.size < 4294967281) :
    Calls Tryz.prog 174 #[.pointer (some ⟨B, 0, none⟩)] w (Reads B s strV (valueR (rest s i)) w) := by
  have hR := Lib.hid hr
  obtain ⟨r, hr⟩ : ∃ r, valueR (rest s i) = r := ⟨_, rfl⟩
  rw [hr]
  have Hr := Lib.hid hr
  have hBlt := hR.out.lt
  clear hr
  obtain ⟨i0, hi0, hz0, hz1, hz2⟩ := info_parts info5
  by_cases hash : isAt 35 (rest s i) = true
  · have hlt := isAt_lt hash
    have Hr' : Hid (hexR (rest s (i + 1)) = r) := by
      show _ = r
      rw [← Hr.out, valueR_hash hash]; simp [rest]
    go_enter Tryz.func174, Tryz.ntmps174
    go_wp2_with (first | (go_at_call 111; refine (is_calls _ _ _ _ _ hR.out hi (by omega)).mono ?_; rintro e w1 ⟨rfl, n, rfl⟩) | (go_at_call 188; refine (hex_calls _ _ _ _ (hR.out.drewN _) hlt hs).mono ?_; rw [Hr'.out]))
    rintro e w1 h
    rcases r with _ | ⟨v, l⟩
    · obtain ⟨rfl, hg⟩ := h
      exact ⟨rfl, reads_none rfl (((Gr.refl B w).drewN n).trans hg)⟩
    · obtain ⟨rfl, hm⟩ := h
      have Hm := Lib.hid hm
      clear hm
      go_wp2_with fail
      go_ret
      exact reads_some rfl (Hm.out.after ((Gr.refl B w).drewN n))
  · have hash' : isAt 35 (rest s i) = false := by simpa using hash
    have Hr' : Hid (∃ n, (rest s i).length < n ∧ valL n [] 0 (rest s i) = r) := ⟨(rest s i).length + 1, by omega, by rw [← Hr.out, valueR_plain hash']⟩
    clear hash
    go_enter Tryz.func174, Tryz.ntmps174
    go_wp2_with (first | (go_at_call 111; refine (is_calls _ _ _ _ _ hR.out hi (by omega)).mono ?_; rintro e w1 ⟨rfl, n, rfl⟩))
    obtain ⟨wb, hwb⟩ : ∃ wb, wb = w.drewN n := ⟨_, rfl⟩
    have HRb : Hid (Rd wb B s i) := by rw [hwb]; exact hR.out.drewN n
    have HGb : Hid (Gr B w wb) := by rw [hwb]; exact (Gr.refl B w).drewN n
    have hsz : w.heap.size ≤ wb.heap.size := by rw [hwb]; exact Nat.le_refl _
    rw [← hwb]
    clear hwb hash'
    go_loopg [3, 4] (s.size - i) (fun k v lv wr => ∃ (j n long : Nat) (b : List UInt8), j ≤ s.size ∧ s.size - j ≤ k ∧ b.length ≤ j ∧ long ≤ b.length ∧ lv = .int .i64 long ∧ w.heap.size ≤ wr.heap.size ∧ Hid (wr.ownsRow w.heap.size 5 1 v b.length (bytesV b)) ∧ Hid ((rest s j).length < n ∧ valL n b long (rest s j) = r) ∧ Hid (Rd wr B s j) ∧ Hid (Gr B w wr))
    case atStart =>
      obtain ⟨n, hn⟩ := Hr'.out
      exact ⟨i, n, 0, [], hi, Nat.le_refl _, Nat.zero_le _, Nat.le_refl _, rfl, hsz, World.ownsRow_nil _ _ _ _, hn, HRb.out, HGb.out⟩
    case round =>
      obtain ⟨j, n, long, b, hj, hk, hbj, hlb, rfl, hsr, hown, hval, hRj, hG⟩ := hrel
      clear hr hR
      have hs' : s.size ≤ 9223372036854775807 := by omega
      by_cases hend : rest s j = [] ∨ isAt 44 (rest s j) = true ∨ isAt 43 (rest s j) = true
      · have Hend : Hid (r = some (b.take long, rest s j)) := by
          show r = _
          rw [← hval.out.2, valL_end hval.out.1 hend]
        have Hown := hown.out.2
        rcases Nat.lt_or_ge j s.size with hlt | hge
        · have q1 : ((j : Int) == (s.size : Int)) = false := by rw [beq_eq_false_iff_ne]; omega
          by_cases h44 : isAt 44 (rest s j) = true
          · clear hend
            rcases Hown with ⟨hv, hb0⟩ | ⟨g, cap, cur, hv, hg, hh, hnc, hcm, hsz, htk⟩
            · subst hv
              have Hcv : Hid (∀ W : World, W.heap = wr.heap → (convert 88 9 (.slice none 0 0)).run Tryz.prog W = .ok (.string ⟨(b.take long).toArray⟩) W) := by
                intro W _
                rw [run_convert_bytes_nil W 88 5 Tryz.underlying88 Tryz.underlying5 0 0 9 Tryz.underlying9]
                have : b.take long = [] := by rw [List.length_eq_zero_iff.1 hb0]; simp
                rw [this]; rfl
              have hl0 : long = 0 := by omega
              subst hl0
              go_wp2_with fail
              refine (ended_calls _ _ _ _ hRj.out).mono ?_
              rintro e w1 ⟨rfl, n1, rfl⟩

              go_wp2_with fail
              refine (is_calls _ _ _ _ _ (hRj.out.drewN n1) hj hs').mono ?_
              rintro e w1 ⟨rfl, n2, rfl⟩

              obtain ⟨wx, hwx⟩ : ∃ wx, wx = (wr.drewN n1).drewN n2 := ⟨_, rfl⟩
              rw [← hwx]
              have hh : wx.heap = wr.heap := by rw [hwx]; rfl
              have Hx : Hid (Gr B w wx ∧ Rd wx B s j ∧ Below wr.heap.size wr wx) := by
                rw [hwx]
                exact ⟨⟨hG.out.os, hG.out.tape, hG.out.output, hG.out.size, hG.out.block⟩, ⟨hRj.out.heap⟩, ⟨rfl, rfl, rfl, Nat.le_refl _, fun _ _ => rfl⟩⟩

              have hcv := Hcv.out wx hh
              clear hwx hh
              go_wp2_with fail
              go_ret
              exact reads_some Hend.out ⟨j, hj, rfl, Hx.out.2.1, Hx.out.1⟩
            · subst hv
              have Hown := hown
              have Hcv : Hid (∀ W : World, W.heap = wr.heap → (convert 88 9 (.slice (some ⟨g, 0, none⟩) long cap)).run Tryz.prog W = .ok (.string ⟨(b.take long).toArray⟩) W) := fun W hW => convert_own (own_heap Hown.out hW) hlb cap
              clear hh htk hsz
              go_wp2_with fail
              refine (ended_calls _ _ _ _ hRj.out).mono ?_
              rintro e w1 ⟨rfl, n1, rfl⟩

              go_wp2_with fail
              refine (is_calls _ _ _ _ _ (hRj.out.drewN n1) hj hs').mono ?_
              rintro e w1 ⟨rfl, n2, rfl⟩

              obtain ⟨wx, hwx⟩ : ∃ wx, wx = (wr.drewN n1).drewN n2 := ⟨_, rfl⟩
              rw [← hwx]
              have hh : wx.heap = wr.heap := by rw [hwx]; rfl
              have Hx : Hid (Gr B w wx ∧ Rd wx B s j ∧ Below wr.heap.size wr wx) := by
                rw [hwx]
                exact ⟨⟨hG.out.os, hG.out.tape, hG.out.output, hG.out.size, hG.out.block⟩, ⟨hRj.out.heap⟩, ⟨rfl, rfl, rfl, Nat.le_refl _, fun _ _ => rfl⟩⟩

              have hcv := Hcv.out wx hh
              clear hwx hh
              go_wp2_with fail
              go_ret
              exact reads_some Hend.out ⟨j, hj, rfl, Hx.out.2.1, Hx.out.1⟩
          · have h44' : isAt 44 (rest s j) = false := by simpa using h44
            have h43 : isAt 43 (rest s j) = true := by
              rcases hend with h | h | h
              · rw [rest_lt hlt] at h; cases h
              · exact absurd h h44
              · exact h
            clear h44 hend
            rcases Hown with ⟨hv, hb0⟩ | ⟨g, cap, cur, hv, hg, hh, hnc, hcm, hsz, htk⟩
            · subst hv
              have Hcv : Hid (∀ W : World, W.heap = wr.heap → (convert 88 9 (.slice none 0 0)).run Tryz.prog W = .ok (.string ⟨(b.take long).toArray⟩) W) := by
                intro W _
                rw [run_convert_bytes_nil W 88 5 Tryz.underlying88 Tryz.underlying5 0 0 9 Tryz.underlying9]
                have : b.take long = [] := by rw [List.length_eq_zero_iff.1 hb0]; simp
                rw [this]; rfl
              have hl0 : long = 0 := by omega
              subst hl0
              go_wp2_with fail
              refine (ended_calls _ _ _ _ hRj.out).mono ?_
              rintro e w1 ⟨rfl, n1, rfl⟩

              go_wp2_with fail
              refine (is_calls _ _ _ _ _ (hRj.out.drewN n1) hj hs').mono ?_
              rintro e w1 ⟨rfl, n2, rfl⟩

              go_wp2_with fail
              refine (is_calls _ _ _ _ _ (hRj.out.drewN (n1 + n2)) hj hs').mono ?_
              rintro e w1 ⟨rfl, n3, rfl⟩

              obtain ⟨wx, hwx⟩ : ∃ wx, wx = (wr.drewN (n1 + n2)).drewN n3 := ⟨_, rfl⟩
              rw [← hwx]
              have hh : wx.heap = wr.heap := by rw [hwx]; rfl
              have Hx : Hid (Gr B w wx ∧ Rd wx B s j ∧ Below wr.heap.size wr wx) := by
                rw [hwx]
                exact ⟨⟨hG.out.os, hG.out.tape, hG.out.output, hG.out.size, hG.out.block⟩, ⟨hRj.out.heap⟩, ⟨rfl, rfl, rfl, Nat.le_refl _, fun _ _ => rfl⟩⟩

              have hcv := Hcv.out wx hh
              clear hwx hh
              go_wp2_with fail
              go_ret
              exact reads_some Hend.out ⟨j, hj, rfl, Hx.out.2.1, Hx.out.1⟩
            · subst hv
              have Hown := hown
              have Hcv : Hid (∀ W : World, W.heap = wr.heap → (convert 88 9 (.slice (some ⟨g, 0, none⟩) long cap)).run Tryz.prog W = .ok (.string ⟨(b.take long).toArray⟩) W) := fun W hW => convert_own (own_heap Hown.out hW) hlb cap
              clear hh htk hsz
              go_wp2_with fail
              refine (ended_calls _ _ _ _ hRj.out).mono ?_
              rintro e w1 ⟨rfl, n1, rfl⟩

              go_wp2_with fail
              refine (is_calls _ _ _ _ _ (hRj.out.drewN n1) hj hs').mono ?_
              rintro e w1 ⟨rfl, n2, rfl⟩

              go_wp2_with fail
              refine (is_calls _ _ _ _ _ (hRj.out.drewN (n1 + n2)) hj hs').mono ?_
              rintro e w1 ⟨rfl, n3, rfl⟩

              obtain ⟨wx, hwx⟩ : ∃ wx, wx = (wr.drewN (n1 + n2)).drewN n3 := ⟨_, rfl⟩
              rw [← hwx]
              have hh : wx.heap = wr.heap := by rw [hwx]; rfl
              have Hx : Hid (Gr B w wx ∧ Rd wx B s j ∧ Below wr.heap.size wr wx) := by
                rw [hwx]
                exact ⟨⟨hG.out.os, hG.out.tape, hG.out.output, hG.out.size, hG.out.block⟩, ⟨hRj.out.heap⟩, ⟨rfl, rfl, rfl, Nat.le_refl _, fun _ _ => rfl⟩⟩

              have hcv := Hcv.out wx hh
              clear hwx hh
              go_wp2_with fail
              go_ret
              exact reads_some Hend.out ⟨j, hj, rfl, Hx.out.2.1, Hx.out.1⟩
        · have q1 : ((j : Int) == (s.size : Int)) = true := by rw [beq_iff_eq]; omega
          clear hend
          rcases Hown with ⟨hv, hb0⟩ | ⟨g, cap, cur, hv, hg, hh, hnc, hcm, hsz, htk⟩
          · subst hv
            have Hcv : Hid (∀ W : World, W.heap = wr.heap → (convert 88 9 (.slice none 0 0)).run Tryz.prog W = .ok (.string ⟨(b.take long).toArray⟩) W) := by
              intro W _
              rw [run_convert_bytes_nil W 88 5 Tryz.underlying88 Tryz.underlying5 0 0 9 Tryz.underlying9]
              have : b.take long = [] := by rw [List.length_eq_zero_iff.1 hb0]; simp
              rw [this]; rfl
            have hl0 : long = 0 := by omega
            subst hl0
            go_wp2_with fail
            refine (ended_calls _ _ _ _ hRj.out).mono ?_
            rintro e w1 ⟨rfl, n1, rfl⟩

            obtain ⟨wx, hwx⟩ : ∃ wx, wx = wr.drewN n1 := ⟨_, rfl⟩
            rw [← hwx]
            have hh : wx.heap = wr.heap := by rw [hwx]; rfl
            have Hx : Hid (Gr B w wx ∧ Rd wx B s j ∧ Below wr.heap.size wr wx) := by
              rw [hwx]
              exact ⟨⟨hG.out.os, hG.out.tape, hG.out.output, hG.out.size, hG.out.block⟩, ⟨hRj.out.heap⟩, ⟨rfl, rfl, rfl, Nat.le_refl _, fun _ _ => rfl⟩⟩

            have hcv := Hcv.out wx hh
            clear hwx hh
            go_wp2_with fail
            go_ret
            exact reads_some Hend.out ⟨j, hj, rfl, Hx.out.2.1, Hx.out.1⟩
          · subst hv
            have Hown := hown
            have Hcv : Hid (∀ W : World, W.heap = wr.heap → (convert 88 9 (.slice (some ⟨g, 0, none⟩) long cap)).run Tryz.prog W = .ok (.string ⟨(b.take long).toArray⟩) W) := fun W hW => convert_own (own_heap Hown.out hW) hlb cap
            clear hh htk hsz
            go_wp2_with fail
            refine (ended_calls _ _ _ _ hRj.out).mono ?_
            rintro e w1 ⟨rfl, n1, rfl⟩

            obtain ⟨wx, hwx⟩ : ∃ wx, wx = wr.drewN n1 := ⟨_, rfl⟩
            rw [← hwx]
            have hh : wx.heap = wr.heap := by rw [hwx]; rfl
            have Hx : Hid (Gr B w wx ∧ Rd wx B s j ∧ Below wr.heap.size wr wx) := by
              rw [hwx]
              exact ⟨⟨hG.out.os, hG.out.tape, hG.out.output, hG.out.size, hG.out.block⟩, ⟨hRj.out.heap⟩, ⟨rfl, rfl, rfl, Nat.le_refl _, fun _ _ => rfl⟩⟩

            have hcv := Hcv.out wx hh
            clear hwx hh
            go_wp2_with fail
            go_ret
            exact reads_some Hend.out ⟨j, hj, rfl, Hx.out.2.1, Hx.out.1⟩
      · have hlt : j < s.size := by
          rcases Nat.lt_or_ge j s.size with h | h
          · exact h
          · exact absurd (Or.inl (rest_ge h)) hend
        have h44 : isAt 44 (rest s j) = false := by
          cases h : isAt 44 (rest s j) with
          | false => rfl
          | true => exact absurd (Or.inr (Or.inl h)) hend
        have h43 : isAt 43 (rest s j) = false := by
          cases h : isAt 43 (rest s j) with
          | false => rfl
          | true => exact absurd (Or.inr (Or.inr h)) hend
        have q1 : ((j : Int) == (s.size : Int)) = false := by rw [beq_eq_false_iff_ne]; omega
        have Hrl := Lib.hid (rest_lt hlt)
        have Hstep : Hid (∃ m, (rest s (j + 1)).length < m ∧ r = if s[j]'hlt = 92 then
            match escR (rest s (j + 1)) with
            | some (x, l') => valL m (b ++ [x]) (b.length + 1) l'
            | none => none
          else if s[j]'hlt = 0 ∨ special.data.toList.contains (s[j]'hlt) = true then none
          else valL m (b ++ [s[j]'hlt]) (if s[j]'hlt = 32 then long else b.length + 1) (rest s (j + 1))) := by
          have h1 := hval.out.1
          have h2 := hval.out.2
          rw [Hrl.out] at h1 h2 h44 h43
          obtain ⟨m, hm, he⟩ := valL_step (b := b) (k := long) h1 h44 h43
          exact ⟨m, hm, by rw [← h2]; exact he⟩
        clear hend
        go_wp2_with fail
        refine (ended_calls _ _ _ _ hRj.out).mono ?_
        rintro e w1 ⟨rfl, n1, rfl⟩

        go_wp2_with fail
        refine (is_calls _ _ _ _ _ (hRj.out.drewN n1) hj hs').mono ?_
        rintro e w1 ⟨rfl, n2, rfl⟩

        go_wp2_with fail
        refine (is_calls _ _ _ _ _ (hRj.out.drewN (n1 + n2)) hj hs').mono ?_
        rintro e w1 ⟨rfl, n3, rfl⟩

        obtain ⟨wx, hwx⟩ : ∃ wx, wx = (wr.drewN (n1 + n2)).drewN n3 := ⟨_, rfl⟩
        rw [← hwx]
        have hh : wx.heap = wr.heap := by rw [hwx]; rfl
        have Hx : Hid (Gr B w wx ∧ Rd wx B s j ∧ Below wr.heap.size wr wx) := by
          rw [hwx]
          exact ⟨⟨hG.out.os, hG.out.tape, hG.out.output, hG.out.size, hG.out.block⟩, ⟨hRj.out.heap⟩, ⟨rfl, rfl, rfl, Nat.le_refl _, fun _ _ => rfl⟩⟩
        have Hown : Hid (wx.ownsRow w.heap.size 5 1 u3 b.length (bytesV b)) := own_heap hown.out hh
        have hsx : w.heap.size ≤ wx.heap.size := by rw [hh]; exact hsr
        clear hwx hh
        have c0 := Hx.out.2.1.c0
        have c1 := Hx.out.2.1.c1
        have f1 := Hx.out.2.1.f1
        go_wp2_with fail
        go_quiet (fail)
        generalize s[j]'hlt = c at *
        have Rq := Lib.hid (Hx.out.2.1.drewN nq)
        have Gq := Lib.hid (Hx.out.1.drewN nq)
        have Oq := Lib.hid (own_drewN Hown.out nq)
        have hsq : w.heap.size ≤ (wx.drewN nq).heap.size := hsx
        obtain ⟨wq, hwq⟩ : ∃ wq, wq = wx.drewN nq := ⟨_, rfl⟩
        rw [← hwq] at Rq Gq Oq hsq ⊢
        clear hwq c0 c1 f1 Hown hsx Hx
        have c0 := Rq.out.c0
        have c1 := Rq.out.c1
        have f1 := Rq.out.f1
        by_cases h92 : c = 92
        · have e92 : ((c.toNat : Int) == 92) = true := by rw [h92]; rfl
          have Hst : Hid (∃ m, (rest s (j + 1)).length < m ∧ r = match escR (rest s (j + 1)) with
              | some (x, l') => valL m (b ++ [x]) (b.length + 1) l'
              | none => none) := by
            obtain ⟨m, hm, he⟩ := Hstep.out
            exact ⟨m, hm, by rw [he, if_pos h92]⟩
          have Hesc := escape_calls wq B s j Rq.out hlt hs
          have Hsh := fun x l' => @escR_shorter (rest s (j + 1)) x l'
          generalize escR (rest s (j + 1)) = q at *
          have HQ := Lib.hid Hesc
          have HS := Lib.hid Hsh
          clear Hesc Hsh h92
          go_wp2_with fail
          refine HQ.out.mono ?_
          rintro e w3 h
          rcases q with _ | ⟨x, l'⟩
          · obtain ⟨rfl, hg⟩ := h
            obtain ⟨m, _, he⟩ := Hst.out
            exact ⟨rfl, reads_none he (Gq.out.trans hg)⟩
          · obtain ⟨rfl, j3, hj3, hr3, hR3, hG3⟩ := h
            have hlen3 : s.size - j3 < s.size - (j + 1) := by
              have := HS.out x l' rfl
              rw [← hr3] at this
              simpa [rest] using this
            have hsz3 : w.heap.size ≤ w3.heap.size := Nat.le_trans hsq hG3.size
            have O3 : Hid (w3.ownsRow w.heap.size 5 1 u3 b.length (bytesV b)) := Oq.out.kept hG3 (own_ne Oq.out hBlt)
            have R3 := Lib.hid hR3
            have G3 := Lib.hid (Gq.out.trans hG3)
            have L3 := Lib.hid hr3
            simp only [byteV]
            clear hr3 hR3 hG3
            go_wp2_with (at_builtin; refine wpList_append_own _ rfl _ _ 88 rfl w.heap.size 5 i0 (.int .u8 0) 1 1 Tryz.underlying88 hi0 hz0 hz1 hz2 rfl (by decide) _ _ _ rfl (O3.out.alloc _) ⟨w3.heap.size, 0, none⟩ 1 1 [.int .u8 (x.toNat : Int)] rfl rfl ?c1 ?c2 ?c3 ?c4 ?c5 ?_)
            case c2 => simp [Value.oneCell']
            case c3 => unfold maxLen; omega
            case c4 => omega
            case c5 => first | omega | (simp; omega)
            intro v4 w4 hown4 hgr4 _
            have R4 : Hid (Rd w4 B s j3) := rd_grown (rd_alloc R3.out _) hgr4 (own_ne O3.out hBlt)
            have G4 : Hid (Gr B w w4) := gr_grown (G3.out.trans (gr_alloc B w3 _)) hgr4 (by simp; omega) (own_base_le O3.out)
            have O4 := Lib.hid hown4
            rw [← bytesV_snoc] at O4
            have hsz4 : w.heap.size ≤ w4.heap.size := by have := hgr4.size; simp at this; omega
            obtain ⟨y, cy, hv4⟩ := own_slice hown4
            subst hv4
            clear hown4 hgr4
            go_wp2_with fail
            go_roundg (s.size - j3)
            case measure => omega
            case rel =>
              obtain ⟨m, hm, he⟩ := Hst.out
              refine ⟨j3, m, b.length + 1, b ++ [x], hj3, Nat.le_refl _, by simp; omega, by simp, by go_num, hsz4, ?_, ⟨?_, ?_⟩, R4.out, G4.out⟩
              · have := O4.out
                rw [List.length_append]; exact this
              · rw [L3.out]
                have := HS.out x l' rfl
                omega
              · rw [L3.out]; exact he.symm
        · have e92 : ((c.toNat : Int) == 92) = false := by
            rw [beq_eq_false_iff_ne]; intro h; exact h92 (u8_eq (n := 92) (by omega) h)
          have Hst : Hid (∃ m, (rest s (j + 1)).length < m ∧ r = if c = 0 ∨ special.data.toList.contains c = true then none
              else valL m (b ++ [c]) (if c = 32 then long else b.length + 1) (rest s (j + 1))) := by
            obtain ⟨m, hm, he⟩ := Hstep.out
            exact ⟨m, hm, by rw [he, if_neg h92]⟩
          have hIB := fun W => (indexByte_calls special c W).mono (fun _ _ h => And.intro h.1 h.2.symm)
          have Hix := Lib.hid (indexByte_has special.data.toList c)
          clear h92
          generalize Lib.indexByte special.data.toList c = x at *
          by_cases h0 : c = 0
          · have e0 : ((c.toNat : Int) == 0) = true := by rw [h0]; rfl
            have Hn : Hid (r = none) := by
              obtain ⟨m, hm, he⟩ := Hst.out
              show r = none
              rw [he, if_pos (.inl h0)]
            clear h0
            go_wp2_with fail
            exact ⟨rfl, reads_none Hn.out Gq.out⟩
          have e0 : ((c.toNat : Int) == 0) = false := by
            rw [beq_eq_false_iff_ne]; intro h; exact h0 (u8_eq (n := 0) (by omega) h)
          have H0 := Lib.hid h0
          clear h0
          rcases Int.lt_or_le x 0 with hx | hx
          · have Hst2 : Hid (∃ m, (rest s (j + 1)).length < m ∧ r = valL m (b ++ [c]) (if c = 32 then long else b.length + 1) (rest s (j + 1))) := by
              obtain ⟨m, hm, he⟩ := Hst.out
              refine ⟨m, hm, ?_⟩
              rw [he, if_neg]
              rintro (h | h)
              · exact H0.out h
              · have := Hix.out.2 h
                omega
            have ej : ((j + 1 : Nat) : Int) = (j : Int) + 1 := by omega
            have hR3 := Rq.out.setCell (j + 1)
            have hG3 := (Gr.refl B wq).setCell 1 (.int .i64 ((j + 1 : Nat) : Int))
            rw [ej] at hR3 hG3
            have hsz3' : w.heap.size ≤ (wq.setCell ⟨B, 1, none⟩ (.int .i64 ((j : Int) + 1))).heap.size := Nat.le_trans hsq hG3.size
            have O3 := Lib.hid (Oq.out.kept hG3 (own_ne Oq.out hBlt))
            have R3 := Lib.hid hR3
            have G3 := Lib.hid (Gq.out.trans hG3)
            have E3 : (wq.setCell ⟨B, 1, none⟩ (.int .i64 ((j : Int) + 1))).heap.size = wq.heap.size := by simp
            have H3 := Lib.hid E3
            clear hR3 hG3 ej E3
            have HS3 := Lib.hid hsz3'
            clear hsz3'
            go_wp2_with (first | (go_at_call 186; refine (hIB _).mono ?_; rintro e w1 ⟨rfl, rfl⟩) | (at_builtin; refine wpList_append_own _ rfl _ _ 88 rfl w.heap.size 5 i0 (.int .u8 0) 1 1 Tryz.underlying88 hi0 hz0 hz1 hz2 rfl (by decide) _ _ _ rfl (O3.out.alloc _) ⟨wq.heap.size, 0, none⟩ 1 1 [.int .u8 (c.toNat : Int)] rfl rfl ?d1 ?d2 ?d3 ?d4 ?d5 ?_))
            case d1 =>
              intro a u h
              have := cell_one_new (wq.setCell ⟨B, 1, none⟩ (.int .i64 ((j : Int) + 1))) (.int .u8 (c.toNat : Int)) 5 a u h
              rw [H3.out] at this
              exact this
            case d2 => simp [Value.oneCell']
            case d3 => unfold maxLen; omega
            case d4 => omega
            case d5 => have := HS3.out; simp at this ⊢; omega
            intro v4 w4 hown4 hgr4 _
            have hal : ∀ o, w.heap.size ≤ ((wq.setCell ⟨B, 1, none⟩ (.int .i64 ((j : Int) + 1))).alloc o).heap.size := fun o => by have := HS3.out; simp at this ⊢; omega
            have R4 : Hid (Rd w4 B s (j + 1)) := rd_grown (rd_alloc R3.out _) hgr4 (own_ne O3.out hBlt)
            have G4 : Hid (Gr B w w4) := gr_grown (G3.out.trans (gr_alloc B _ _)) hgr4 (hal _) (own_base_le O3.out)
            have O4 := Lib.hid hown4
            rw [← bytesV_snoc] at O4
            have hsz4 : w.heap.size ≤ w4.heap.size := Nat.le_trans (hal _) hgr4.size
            obtain ⟨y, cy, hv4⟩ := own_slice hown4
            subst hv4
            clear hown4 hgr4 hal
            by_cases h32 : c = 32
            · have e32 : ((c.toNat : Int) != 32) = false := by rw [h32]; rfl
              have H32 := Lib.hid h32
              clear h32
              go_wp2_with fail
              go_roundg (s.size - (j + 1))
              case measure => omega
              case rel =>
                obtain ⟨m, hm, he⟩ := Hst2.out
                rw [if_pos H32.out] at he
                refine ⟨j + 1, m, long, b ++ [c], by omega, Nat.le_refl _, by simp; omega, by simp; omega, rfl, hsz4, ?_, ⟨hm, he.symm⟩, R4.out, G4.out⟩
                have := O4.out
                rw [List.length_append]; exact this
            · have e32 : ((c.toNat : Int) != 32) = true := by
                rw [bne_iff_ne]; intro h; exact h32 (u8_eq (n := 32) (by omega) h)
              have H32 := Lib.hid h32
              clear h32
              go_wp2_with fail
              go_roundg (s.size - (j + 1))
              case measure => omega
              case rel =>
                obtain ⟨m, hm, he⟩ := Hst2.out
                rw [if_neg H32.out] at he
                refine ⟨j + 1, m, b.length + 1, b ++ [c], by omega, Nat.le_refl _, by simp; omega, by simp, by go_num, hsz4, ?_, ⟨hm, he.symm⟩, R4.out, G4.out⟩
                have := O4.out
                rw [List.length_append]; exact this
          · have Hn : Hid (r = none) := by
              obtain ⟨m, hm, he⟩ := Hst.out
              show r = none
              rw [he, if_pos (.inr (Hix.out.1 hx))]
            go_wp2_with (go_at_call 186; refine (hIB _).mono ?_; rintro e w1 ⟨rfl, rfl⟩)
            exact ⟨rfl, reads_none Hn.out Gq.out⟩
end Sy
end Go.Proofs.YthoealembhkaoaaGreatDoor
