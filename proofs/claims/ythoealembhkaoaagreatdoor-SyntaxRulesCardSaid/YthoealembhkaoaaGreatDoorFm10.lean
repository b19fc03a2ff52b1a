import Derived.Test.YthoealembhkaoaaGreatDoorFm09
import Derived.Defers
import Derived.Recover
import Derived.Tactics2
import Derived.Laws.Pointers
import Derived.Deep.RegionLaw
namespace Go.Proofs.YthoealembhkaoaaGreatDoor
open Go.RowKit
namespace Sy
set_option linter.unusedVariables false

theorem unhex_len : ∀ (n : Nat) (l u : List UInt8), l.length ≤ n → unhex l = some u → u.length ≤ l.length
  | n, [], u, _, h => by simp [unhex] at h; subst h; simp
  | n, [a], u, _, h => by simp [unhex] at h
  | 0, a :: b :: l, u, hn, h => by simp at hn
  | n + 1, a :: b :: l, u, hn, h => by
    simp only [unhex] at h
    split at h
    · cases h
    · cases hu : unhex l with
      | none => rw [hu] at h; cases h
      | some v =>
        rw [hu] at h
        have := unhex_len n l v (by simp at hn; omega) hu
        simp at h
        subst h
        simp; omega
theorem takeWhile_le (p : UInt8 → Bool) (l : List UInt8) : (l.takeWhile p).length ≤ l.length := by
  induction l with
  | nil => exact Nat.le_refl _
  | cons b l ih => rw [List.takeWhile_cons]; split <;> simp <;> omega
theorem typR_len {l t l' : List UInt8} (h : typR l = some (t, l')) : t.length ≤ l.length := by
  unfold typR at h
  split at h
  · injection h with h; injection h with h1 h2; rw [← h1]; exact takeWhile_le _ _
  · cases h
theorem hexR_len {l t l' : List UInt8} (h : hexR l = some (t, l')) : t.length ≤ l.length := by
  unfold hexR at h
  cases hu : unhex (l.takeWhile hexB) with
  | none => rw [hu] at h; cases h
  | some u =>
    rw [hu] at h
    rcases u with _ | ⟨a, b⟩
    · cases h
    · simp only [someBytes] at h
      injection h with h; injection h with h1 h2; rw [← h1]
      exact Nat.le_trans (unhex_len _ _ _ (Nat.le_refl _) hu) (takeWhile_le _ _)
theorem valL_len : ∀ (n : Nat) (b : List UInt8) (k : Nat) (l t l' : List UInt8), valL n b k l = some (t, l') → t.length ≤ b.length + l.length
  | 0, b, k, l, t, l', h => by simp only [valL] at h; injection h with h; injection h with h1 h2; rw [← h1]; simp; omega
  | n + 1, b, k, [], t, l', h => by simp only [valL] at h; injection h with h; injection h with h1 h2; rw [← h1]; simp; omega
  | n + 1, b, k, c :: l, t, l', h => by
    simp only [valL] at h
    split at h
    · injection h with h; injection h with h1 h2; rw [← h1]; simp; omega
    · split at h
      · split at h
        · rename_i x l2 he
          have h1 := escR_shorter he
          have h2 := valL_len n _ _ _ _ _ h
          simp at h2; simp; omega
        · cases h
      · split at h
        · cases h
        · have := valL_len n _ _ _ _ _ h
          simp at this; simp; omega
theorem valueR_len {l t l' : List UInt8} (h : valueR l = some (t, l')) : t.length ≤ l.length := by
  cases ha : isAt 35 l with
  | true =>
    rw [valueR_hash ha] at h
    have := hexR_len h
    simp at this; omega
  | false => rw [valueR_plain ha] at h; simpa using valL_len _ _ _ _ _ _ h
/-- A pair is no longer than a number. -/
def Within (n : Nat) (q : Pair) : Prop := q.1.length ≤ n ∧ q.2.length ≤ n
theorem pairR_len {l l' : List UInt8} {p : Pair} (h : pairR l = some (p, l')) : Within l.length p := by
  unfold pairR at h
  split at h
  · cases h
  · rename_i t l2 ht
    have h1 := typR_le ht
    have h1' := typR_len ht
    have h2 := skip_le l
    have h3 := skip_le l2
    split at h
    · split at h
      · cases h
      · rename_i v l4 hv
        have h4 := valueR_len hv
        have h5 := skip_le ((skip l2).drop 1)
        injection h with h; injection h with h _
        rw [← h]
        have h7 : ((skip l2).drop 1).length ≤ (skip l2).length := by simp
        exact ⟨by simp only; omega, by simp only; omega⟩
    · cases h
theorem isAt_pos {c : Int} {l : List UInt8} (h : isAt c l = true) : 0 < l.length := by cases l with | nil => cases h | cons _ _ => simp
theorem partL_len (m : Nat) : ∀ (n : Nat) (acc : List Pair) (l : List UInt8) (p : List Pair) (l' : List UInt8), partL n acc l = some (p, l') → l.length ≤ m → (∀ q ∈ acc, Within m q) → p.length ≤ acc.length + l.length ∧ ∀ q ∈ p, Within m q
  | 0, _, _, _, _, h, _, _ => by cases h
  | n + 1, acc, l, p, l', h, hl, ha => by
    simp only [partL] at h
    split at h
    · rename_i h43
      have h0 := isAt_pos h43
      split at h
      · rename_i q l2 hq
        have h1 := pairR_le hq
        have h2 := pairR_len hq
        simp at h1 h2
        have h3 := partL_len m n _ _ _ _ h (by omega) (fun x hx => by
          rcases List.mem_append.1 hx with hx | hx
          · exact ha x hx
          · simp only [List.mem_singleton] at hx
            subst hx
            exact ⟨by have := h2.1; omega, by have := h2.2; omega⟩)
        exact ⟨by have := h3.1; simp at this; omega, h3.2⟩
      · cases h
    · injection h with h; injection h with h1 h2
      subst h1
      exact ⟨by omega, ha⟩
theorem partR_len {l l' : List UInt8} {p : List Pair} (h : partR l = some (p, l')) (m : Nat) (hm : l.length ≤ m) : p.length ≤ 1 + m ∧ ∀ q ∈ p, Within m q := by
  unfold partR at h
  split at h
  · rename_i q l2 hq
    have h1 := pairR_le hq
    have h2 := pairR_len hq
    have h3 := partL_len m _ _ _ _ _ h (by omega) (fun x hx => by
      simp only [List.mem_singleton] at hx
      subst hx
      exact ⟨by have := h2.1; omega, by have := h2.2; omega⟩)
    exact ⟨by have := h3.1; simp at this; omega, h3.2⟩
  · cases h
def WithinRow (m : Nat) (r : List Pair) : Prop := r.length ≤ 1 + m ∧ ∀ q ∈ r, Within m q
theorem dnL_len (m : Nat) : ∀ (n : Nat) (acc : List (List Pair)) (l : List UInt8) (d : List (List Pair)), dnL n acc l = some d → l.length ≤ m → (∀ r ∈ acc, WithinRow m r) → d.length ≤ acc.length + l.length ∧ ∀ r ∈ d, WithinRow m r
  | 0, _, _, _, h, _, _ => by cases h
  | n + 1, acc, l, d, h, hl, ha => by
    simp only [dnL] at h
    split at h
    · rename_i h44
      have h0 := isAt_pos h44
      split at h
      · rename_i p l2 hq
        have h1 := (partR_le hq).1
        have h2 := partR_len hq m (by simp; omega)
        simp at h1
        have h3 := dnL_len m n _ _ _ h (by omega) (fun x hx => by
          rcases List.mem_append.1 hx with hx | hx
          · exact ha x hx
          · simp only [List.mem_singleton] at hx
            subst hx
            exact h2)
        exact ⟨by have := h3.1; simp at this; omega, h3.2⟩
      · cases h
    · split at h
      · injection h with h; subst h; exact ⟨by omega, ha⟩
      · cases h
theorem dnR_len {l : List UInt8} {d : List (List Pair)} (h : dnR l = some d) : d.length ≤ 1 + l.length ∧ ∀ r ∈ d, WithinRow l.length r := by
  unfold dnR at h
  split at h
  · injection h with h; subst h; exact ⟨by simp, fun _ h => nomatch h⟩
  · split at h
    · rename_i p l2 hp
      have h1 := (partR_le hp).1
      have h3 := dnL_len l.length _ _ _ _ h h1 (fun x hx => by
        simp only [List.mem_singleton] at hx
        subst hx
        exact partR_len hp _ (Nat.le_refl _))
      exact ⟨by have := h3.1; simp at this; omega, h3.2⟩
    · cases h
theorem dnR_modest {l : List UInt8} {d : List (List Pair)} (h : dnR l = some d) (hl : l.length ≤ 65536) : Modest d := by
  obtain ⟨h1, h2⟩ := dnR_len h
  refine ⟨by omega, fun r hr => ?_⟩
  obtain ⟨h3, h4⟩ := h2 r hr
  refine ⟨by omega, fun q hq => ?_⟩
  obtain ⟨h5, h6⟩ := h4 q hq
  exact ⟨by omega, by omega⟩
/-- What Parse answers: the name, or the error. -/
def parseR (l : List UInt8) : Option (List (List Pair)) × Int :=
  if 65536 < l.length then (none, 2) else
  match dnR l with
  | none => (none, 30)
  | some d => if tooLong d then (none, 2) else (some d, 0)

theorem catch_panicking (a b : Addr) (va vb : Value) (w : World) (ha : w.cell? a = some va) (hb : w.cell? b = some vb) (fa : w.frozen? a = false) (fb : w.frozen? b = false) (hab : a.block ≠ b.block) :
    CallsD Tryz.prog 64 #[.pointer (some a), .pointer (some b)] (.panicking [{ v := .iface 23 (.int .i64 30), recovered := false }]) w fun e u' w' =>
      e = .returned (.tuple #[]) ∧ u' = .panicking [{ v := .iface 23 (.int .i64 30), recovered := true }] ∧ w' = (w.setCell a (.slice none 0 0)).setCell b (.int .i64 30) := by
  refine callsD_of_wpS Tryz.func64 rfl fun c₀ cs hu => ?_
  have hta : (Sem.run Tryz.prog (Instr.typeAssert (Value.iface 23 (Value.int IntKind.i64 30)) 20 23 true) w) = .ok (.tuple #[.int .i64 30, .bool true]) w := by simp [Instr.typeAssert, go_sem]
  have hb' : (w.setCell a (.slice none 0 0)).cell? b = some vb := by rw [World.cell?_of_block (w := w) (Below.heap_setCell _ _ _ _ (Ne.symm hab))]; exact hb
  have fb' : (w.setCell a (.slice none 0 0)).frozen? b = false := by rw [World.frozen?_of_block (w := w) (Below.heap_setCell _ _ _ _ (Ne.symm hab))]; exact fb
  apply wpS_seq
  apply wpS_region
  simp [wpOpsS, go_sem, recoverD, hu, Tryz.ntmps64, Exit.thenS]
  apply wpS_seq
  apply wpS_region
  simp [wpOpsS, go_sem, Exit.thenS]
  refine wpS_cond (t := true) (by simp [Act.eval, Array.replicate]) ?_
  simp only [if_true]
  apply wpS_seq
  apply wpS_region
  simp [wpOpsS, go_sem, Exit.thenS, hta]
  apply wpS_seq
  apply wpS_seq
  apply wpS_region
  simp [wpOpsS, go_sem, Exit.thenS]
  refine wpS_cond (t := false) (by simp [Act.eval, Array.replicate]) ?_
  simp only [Bool.false_eq_true, if_false]
  refine wpS_of_wp (wp_skip ?_)
  simp only [Exit.thenS]
  apply wpS_region
  simp [wpOpsS, go_sem, ha, fa, hb', fb', bodyPostS, results, Tryz.results64]
theorem catch_idle (a b : Addr) (w : World) :
    CallsD Tryz.prog 64 #[.pointer (some a), .pointer (some b)] .returning w fun e u' w' => e = .returned (.tuple #[]) ∧ u' = .returning ∧ w' = w := by
  refine callsD_of_wpS Tryz.func64 rfl fun c₀ cs hu => ?_
  apply wpS_seq
  apply wpS_region
  simp [wpOpsS, go_sem, recoverD, hu, Tryz.ntmps64, Exit.thenS]
  apply wpS_seq
  apply wpS_region
  simp [wpOpsS, go_sem, Exit.thenS]
  refine wpS_cond (t := false) (by simp [Act.eval, Array.replicate]) ?_
  simp only [Bool.false_eq_true, if_false]
  refine wpS_of_wp (wp_skip ?_)
  cases c₀
  simp_all [bodyPostS, results, Tryz.results64]

theorem RowsOf.mono {w : World} {base base' : Nat} (hb : base' ≤ base) : ∀ {vs : List Value} {d : List (List Pair)}, RowsOf w base vs d → RowsOf w base' vs d
  | [], [], _ => trivial
  | v :: vs, r :: rs, h => ⟨own_mono h.1 hb, h.2.1, h.2.2.1, RowsOf.mono hb h.2.2.2⟩
  | [], _ :: _, h => h.elim
  | _ :: _, [], h => h.elim
theorem push3 (h : Array Obj) (a b c : Obj) : (((h.push a).push b).push c)[h.size]? = some a ∧ (((h.push a).push b).push c)[h.size + 1]? = some b ∧ (((h.push a).push b).push c)[h.size + 2]? = some c := by
  refine ⟨?_, ?_, ?_⟩
  · rw [Array.getElem?_push, if_neg (by simp; omega), Array.getElem?_push, if_neg (by simp), Array.getElem?_push, if_pos rfl]
  · rw [Array.getElem?_push, if_neg (by simp), Array.getElem?_push, if_pos (by simp)]
  · rw [Array.getElem?_push, if_pos (by simp)]
theorem set_one {w : World} {g : Nat} {v0 : Value} {t : TypeId} (h : w.heap[g]? = some (.cells #[v0] t)) (v : Value) : (w.setCell ⟨g, 0, none⟩ v).heap[g]? = some (.cells #[v] t) := by
  have hlt := lt_of_block h
  have h' : w.heap[g] = .cells #[v0] t := by simpa [Array.getElem?_eq_getElem hlt] using h
  show (w.heap.modify g _)[g]? = _
  rw [Array.getElem?_eq_getElem (by simpa using hlt), Array.getElem_modify_self, h']
  rfl
/-- The two results' cells, laid. -/
theorem set_two {w : World} {a b : Nat} {va vb : Value} {t u : TypeId} (hab : a ≠ b) (ha : w.heap[a]? = some (.cells #[va] t)) (hb : w.heap[b]? = some (.cells #[vb] u)) (xa xb : Value) :
    ((w.setCell ⟨a, 0, none⟩ xa).setCell ⟨b, 0, none⟩ xb).heap[a]? = some (.cells #[xa] t) ∧ ((w.setCell ⟨a, 0, none⟩ xa).setCell ⟨b, 0, none⟩ xb).heap[b]? = some (.cells #[xb] u) := by
  refine ⟨?_, set_one ((Below.heap_setCell _ _ _ _ (by simpa using hab.symm)).trans hb) _⟩
  exact (Below.heap_setCell _ _ _ _ (by simpa using hab)).trans (set_one ha _)
theorem gr_setCell (w : World) (g o : Nat) (v : Value) : w.grownBy (w.setCell ⟨g, o, none⟩ v) (some g) := Gr.setCell (Gr.refl g w) o v
def ParseP (r : Option (List (List Pair)) × Int) (w : World) (e : Ending) (w' : World) : Prop :=
  ∃ v, e = .returned (.tuple #[v, .int .i64 r.2]) ∧ (match r.1 with | some d => OwnDn w' w.heap.size v d | none => v = .slice none 0 0) ∧ Below w.heap.size w w'

set_option maxRecDepth 100000 in
set_option maxHeartbeats 4000000 in
theorem parse_calls (s : ByteArray) (w : World) (he : Env w) (hs : s.size ≤ 9223372036854775807) :
    Calls Tryz.prog 37 #[.string s] w (ParseP (parseR s.data.toList) w) := by
  have hmf : ∀ (fn : Fn) (first cap : Array Value) (w : World), (Instr.makeFunc fn first cap).run Tryz.prog w = .ok (.func fn first cap) w := fun _ _ _ _ => rfl
  by_cases hl : 65536 < s.size
  · have hl' : (65536 : Int) < (s.size : Int) := by omega
    have hp : parseR s.data.toList = (none, 2) := by
      unfold parseR
      rw [if_pos (by simpa using hl)]
    rw [hp]
    clear hp he
    go_enter_defers Tryz.func37, Tryz.ntmps37
    go_wp2_with fail
    simp [bodyPostD, Leaves, results, Tryz.results37, go_sem]
    exact ⟨_, rfl, rfl, ((Below.refl _ _).alloc (Nat.le_refl _) _).alloc (by simp) _⟩
  · have hl' : ¬ (65536 : Int) < (s.size : Int) := by omega
    have hlen : ¬ 65536 < s.data.toList.length := by simpa using hl
    obtain ⟨wn, hwn⟩ : ∃ wn, wn = ((w.alloc (.cells #[.slice none 0 0] 56)).alloc (.cells #[.int .i64 0] 23)).alloc (.cells #[.string s, .int .i64 0] 71) := ⟨_, rfl⟩
    have hsz : wn.heap.size = w.heap.size + 3 := by rw [hwn]; simp
    have hRd : Rd wn (w.heap.size + 2) s 0 := ⟨by rw [hwn]; exact (push3 w.heap _ _ _).2.2⟩
    have hbw : Below w.heap.size w wn := by
      rw [hwn]
      exact (((Below.refl _ _).alloc (Nat.le_refl _) _).alloc (by simp) _).alloc (by simp; omega) _
    have hE : Env wn := he.below hbw
    have hca : wn.heap[w.heap.size]? = some (.cells #[.slice none 0 0] 56) := by rw [hwn]; exact (push3 w.heap _ _ _).1
    have hcb : wn.heap[w.heap.size + 1]? = some (.cells #[.int .i64 0] 23) := by rw [hwn]; exact (push3 w.heap _ _ _).2.1
    have hname := name_calls wn (w.heap.size + 2) s hRd (by omega) hE (by have := he.three; omega)
    have hpr : parseR s.data.toList = match dnR s.data.toList with | none => (none, 30) | some d => if tooLong d then (none, 2) else (some d, 0) := by
      unfold parseR
      rw [if_neg hlen]
    rw [hpr]
    have hmod : ∀ d, dnR s.data.toList = some d → Modest d := fun d h => dnR_modest h (by omega)
    have Hmod := Lib.hid hmod
    clear hmod hpr hE hRd
    generalize dnR s.data.toList = r at *
    have HA := Lib.hid hca
    have HB := Lib.hid hcb
    have HW := Lib.hid hbw
    have HS := Lib.hid hsz
    clear hca hcb hbw hsz he
    go_enter_defers Tryz.func37, Tryz.ntmps37
    go_wp2_with fail
    rw [← hwn]
    refine hname.mono ?_
    clear hname hwn
    rintro e wm h
    have hs2 : ∀ (p : Nat), p < w.heap.size + 2 → Gr (w.heap.size + 2) wn wm → wm.heap[p]? = wn.heap[p]? := fun p hp hg => hg.block p (by have := HS.out; omega) (by intro e; injection e with e; omega)
    cases r with
    | none =>
      obtain ⟨rfl, hg⟩ := h
      have ca : wm.heap[w.heap.size]? = some (.cells #[.slice none 0 0] 56) := (hs2 _ (by omega) hg).trans HA.out
      have cb : wm.heap[w.heap.size + 1]? = some (.cells #[.int .i64 0] 23) := (hs2 _ (by omega) hg).trans HB.out
      have hbm : Below w.heap.size w wm := HW.out.trans ⟨hg.os, hg.tape, hg.output, hg.size, fun k hk => hs2 k (by omega) hg⟩
      clear hg hs2
      simp only [gaveUp]
      go_wp2_with fail
      refine leaves_cons (f := 64) (args := #[.pointer (some ⟨w.heap.size, 0, none⟩), .pointer (some ⟨w.heap.size + 1, 0, none⟩)]) (by simp) (by simp [go_sem]) ?_
      refine (catch_panicking _ _ (.slice none 0 0) (.int .i64 0) _ ?_ ?_ ?_ ?_ (by simp)).mono ?_
      · simp [World.cell?, ca]
      · simp [World.cell?, cb]
      · simp [World.frozen?, ca]
      · simp [World.frozen?, cb]
      rintro e u' w'' ⟨rfl, rfl, rfl⟩
      have h2 := set_two (by omega) ca cb (.slice none 0 0) (.int .i64 30)
      have hb2 : Below w.heap.size w ((wm.setCell ⟨w.heap.size, 0, none⟩ (.slice none 0 0)).setCell ⟨w.heap.size + 1, 0, none⟩ (.int .i64 30)) := (hbm.setCell (Nat.le_refl _) _).setCell (by simp) _
      generalize (wm.setCell ⟨w.heap.size, 0, none⟩ (.slice none 0 0)).setCell ⟨w.heap.size + 1, 0, none⟩ (.int .i64 30) = W at *
      simp [Leaves, settle, results, Tryz.results37, go_sem, World.cell?, h2.1, h2.2]
      exact ⟨_, rfl, rfl, hb2⟩
    | some d =>
      obtain ⟨v, rfl, hO, hg⟩ := h
      have ca : wm.heap[w.heap.size]? = some (.cells #[.slice none 0 0] 56) := (hs2 _ (by omega) hg).trans HA.out
      have cb : wm.heap[w.heap.size + 1]? = some (.cells #[.int .i64 0] 23) := (hs2 _ (by omega) hg).trans HB.out
      have CA := Lib.hid ca
      have CB := Lib.hid cb
      have HBM := Lib.hid (show Below w.heap.size w wm from HW.out.trans ⟨hg.os, hg.tape, hg.output, hg.size, fun k hk => hs2 k (by omega) hg⟩)
      have hwm : wn.heap.size ≤ wm.heap.size := hg.size
      have htl := tooLong_calls wm wn.heap.size v d hO (Hmod.out d rfl)
      have HO := Lib.hid hO
      clear hO hg hs2 ca cb
      have hsz := HS.out
      generalize htb : tooLong d = b at *
      go_wp2_with fail
      refine htl.mono ?_
      rintro e w5 ⟨rfl, hb5⟩
      have ca : w5.heap[w.heap.size]? = some (.cells #[.slice none 0 0] 56) := (hb5.block _ (by omega)).trans CA.out
      have cb : w5.heap[w.heap.size + 1]? = some (.cells #[.int .i64 0] 23) := (hb5.block _ (by omega)).trans CB.out
      have hO5 : OwnDn w5 wn.heap.size v d := by
        obtain ⟨vs, h1, h2⟩ := HO.out
        exact ⟨vs, own_below h1 hb5, h2.below hb5⟩
      have hb5' : Below w.heap.size w w5 := HBM.out.trans (hb5.mono HBM.out.size)
      clear hb5 htl
      have cca : w5.cell? ⟨w.heap.size, 0, none⟩ = some (.slice none 0 0) := by simp [World.cell?, ca]
      have ccb : w5.cell? ⟨w.heap.size + 1, 0, none⟩ = some (.int .i64 0) := by simp [World.cell?, cb]
      have cfa : w5.frozen? ⟨w.heap.size, 0, none⟩ = false := by simp [World.frozen?, ca]
      have cfb : w5.frozen? ⟨w.heap.size + 1, 0, none⟩ = false := by simp [World.frozen?, cb]
      have CA5 := Lib.hid ca
      have CB5 := Lib.hid cb
      have HO5 := Lib.hid hO5
      have HB5 := Lib.hid hb5'
      clear ca cb hO5 hb5'
      obtain ⟨y, z, hv⟩ : ∃ y z, v = .slice y d.length z := by
        obtain ⟨vs, h1, h2⟩ := HO5.out
        exact own_slice h1
      subst hv
      cases b with
      | true =>
        go_wp2_with fail
        refine leaves_cons (f := 64) (args := #[.pointer (some ⟨w.heap.size, 0, none⟩), .pointer (some ⟨w.heap.size + 1, 0, none⟩)]) (by simp) (by simp [go_sem]) ?_
        refine (catch_idle _ _ _).mono ?_
        rintro e u' w'' ⟨rfl, rfl, rfl⟩
        have h2 := set_two (by omega) CA5.out CB5.out (.slice none 0 0) (.int .i64 2)
        have hb2 : Below w.heap.size w ((w5.setCell ⟨w.heap.size, 0, none⟩ (.slice none 0 0)).setCell ⟨w.heap.size + 1, 0, none⟩ (.int .i64 2)) := (HB5.out.setCell (Nat.le_refl _) _).setCell (by simp) _
        generalize (w5.setCell ⟨w.heap.size, 0, none⟩ (.slice none 0 0)).setCell ⟨w.heap.size + 1, 0, none⟩ (.int .i64 2) = W at *
        simp [Leaves, settle, results, Tryz.results37, go_sem, World.cell?, h2.1, h2.2]
        exact ⟨_, rfl, rfl, hb2⟩
      | false =>
        go_wp2_with fail
        refine leaves_cons (f := 64) (args := #[.pointer (some ⟨w.heap.size, 0, none⟩), .pointer (some ⟨w.heap.size + 1, 0, none⟩)]) (by simp) (by simp [go_sem]) ?_
        refine (catch_idle _ _ _).mono ?_
        rintro e u' w'' ⟨rfl, rfl, rfl⟩
        have h2 := set_two (by omega) CA5.out CB5.out (.slice y d.length z) (.int .i64 0)
        have hb2 : Below w.heap.size w ((w5.setCell ⟨w.heap.size, 0, none⟩ (.slice y d.length z)).setCell ⟨w.heap.size + 1, 0, none⟩ (.int .i64 0)) := (HB5.out.setCell (Nat.le_refl _) _).setCell (by simp) _
        have hO2 : OwnDn ((w5.setCell ⟨w.heap.size, 0, none⟩ (.slice y d.length z)).setCell ⟨w.heap.size + 1, 0, none⟩ (.int .i64 0)) w.heap.size (.slice y d.length z) d := by
          obtain ⟨vs, h1, h3⟩ := HO5.out
          have n1 : w.heap.size < wn.heap.size := by omega
          have n2 : w.heap.size + 1 < wn.heap.size := by omega
          have g1 := gr_setCell w5 w.heap.size 0 (.slice y d.length z)
          have k1 := h1.kept g1 (own_ne h1 n1)
          have k3 := h3.kept g1 (rows_ne h3 n1)
          have g2 := gr_setCell (w5.setCell ⟨w.heap.size, 0, none⟩ (.slice y d.length z)) (w.heap.size + 1) 0 (.int .i64 0)
          have k5 := k1.kept g2 (own_ne k1 n2)
          have k6 := k3.kept g2 (rows_ne k3 n2)
          exact ⟨vs, own_mono k5 (by omega), k6.mono (by omega)⟩
        generalize (w5.setCell ⟨w.heap.size, 0, none⟩ (.slice y d.length z)).setCell ⟨w.heap.size + 1, 0, none⟩ (.int .i64 0) = W at *
        simp [Leaves, settle, results, Tryz.results37, go_sem, World.cell?, h2.1, h2.2]
        exact ⟨_, rfl, hO2, hb2⟩
end Sy
end Go.Proofs.YthoealembhkaoaaGreatDoor
namespace Go.Proofs.YthoealembhkaoaaGreatDoor
open Go.RowKit
namespace Sy
set_option linter.unusedVariables false

theorem compare_calls (a b : ByteArray) (w : World) :
    Calls Tryz.prog 33 #[.string a, .string b] w fun e w' => e = .returned (.int .i64 (Lib.compareBytes a.data.toList b.data.toList)) ∧ w' = w := by
  have hc := Tryz.strings_Compare a b w
  generalize Lib.compareBytes a.data.toList b.data.toList = n at *
  go_enter Tryz.func33, Tryz.ntmps33
  go_wp2_with fail
  refine hc.mono ?_
  rintro e w1 ⟨rfl, rfl⟩
  clear hc
  go_wp2_with fail
  go_ret
  exact ⟨rfl, rfl⟩
theorem text_calls (s : ByteArray) (w : World) (hs : s.size ≤ 9223372036854775807) (he : Env w) :
    Calls Tryz.prog 99 #[.string s] w fun e w' => e = .returned (.bool (Lib.validD s.data.toList)) ∧ Below w.heap.size w w' := by
  have hc := Tryz.utf8_ValidString s w hs he.u
  generalize Lib.validD s.data.toList = n at *
  go_enter Tryz.func99, Tryz.ntmps99
  go_wp2_with fail
  refine hc.mono ?_
  rintro e w1 ⟨rfl, hb⟩
  clear hc
  go_wp2_with fail
  go_ret
  exact ⟨rfl, hb⟩
theorem putRune_calls (r : Int) (w : World) (h : Lib.validRune r = true) :
    Calls Tryz.prog 102 #[.int .i32 r] w fun e w' => e = .returned (.tuple #[.string (Utf8.encode r), .int .i64 0]) ∧ w' = w := by
  have hc := Tryz.utf8_ValidRune r w
  rw [h] at hc
  go_enter Tryz.func102, Tryz.ntmps102
  go_wp2_with fail
  refine hc.mono ?_
  rintro e w1 ⟨rfl, rfl⟩
  clear hc
  go_wp2_with fail
  go_ret2
  exact ⟨rfl, rfl⟩
/-- append within the capacity of a row of the call's own, as one step of a region that draws. -/
theorem step_append_fits {P : Program} {ops : Array Oper} {o : Oper} {a : Act} {w : World} {K : Act → World → Prop} {Q : Exit → Act → World → Prop} {E : Prop}
    (hg : o.guard = none) (s x : Operand) (t : TypeId) (hop : o.op = Op.call { callee := Callee.builtin Builtin.append, args := #[s, x], argTypes := #[t, t] })
    (base : Nat) (e : TypeId) (i : TypeInfo) (size : Nat) (h1 : P.underlying t = some (.slice e)) (h2 : P.info? e = some i) (h4 : i.size = size)
    (g k cap : Nat) (xs : List Value) (hs : a.eval s = .slice (some ⟨g, 0, none⟩) k cap) (hown : w.ownsRow base e size (.slice (some ⟨g, 0, none⟩) k cap) k xs) (ad : Addr) (m c : Nat) (news : List Value) (hx : a.eval x = .slice (some ad) m c) (hn : news.length = m * size)
    (hc : ∀ j u, news[j]? = some u → w.cell? (ad.add j) = some u) (h1c : ∀ u ∈ news, u.oneCell' = true) (b1 : k + m ≤ cap)
    (hK : ∀ w', w'.ownsRow base e size (.slice (some ⟨g, 0, none⟩) (k + m) cap) (k + m) (xs ++ news) → w.grownBy w' (some g) → K (a.put o.dst (.slice (some ⟨g, 0, none⟩) (k + m) cap)) w') :
    if Region.wanted o (yielded ops a.tmps) = true then Oper.wp P o a w K Q else E := by
  have hw : Region.wanted o (yielded ops a.tmps) = true := by simp [Region.wanted, hg]
  rw [if_pos hw]
  obtain ⟨w', hrun, r1, r2⟩ := run_append_fits (P := P) w base t o.type e i size h1 h2 h4 g k cap xs hown ad m c news hn hc h1c b1
  unfold Oper.wp
  simp [execOp, hop, resolve, invoke, builtin, hs, hx, hrun, Result.andThen]
  exact hK w' r1 r2
theorem cell_two_new (w : World) (u v : Value) (e : TypeId) (j : Nat) (x : Value) (h : [u, v][j]? = some x) : (w.alloc (.cells #[u, v] e)).cell? ((⟨w.heap.size, 0, none⟩ : Addr).add j) = some x := by
  match j, h with
  | 0, h => simp at h; subst h; simp [go_sem, Addr.add]
  | 1, h => simp at h; subst h; simp [go_sem, Addr.add]
  | n + 2, h => simp at h
/-- A digit of sixteen. -/
def hexd (n : Nat) : UInt8 := if n < 10 then UInt8.ofNat (48 + n) else UInt8.ofNat (87 + n)
/-- Bytes as digits. -/
def hexed : List UInt8 → List UInt8
  | [] => []
  | b :: l => hexd (b.toNat / 16) :: hexd (b.toNat % 16) :: hexed l
theorem hexed_length : ∀ l, (hexed l).length = 2 * l.length
  | [] => rfl
  | b :: l => by simp [hexed, hexed_length l]; omega

theorem digs_at (x : Int) (h : x.toNat < (⟨#[48, 49, 50, 51, 52, 53, 54, 55, 56, 57, 97, 98, 99, 100, 101, 102]⟩ : ByteArray).size) : (⟨#[48, 49, 50, 51, 52, 53, 54, 55, 56, 57, 97, 98, 99, 100, 101, 102]⟩ : ByteArray)[x.toNat]'h = hexd x.toNat := by
  generalize x.toNat = n at *
  have h' : n < 16 := h
  have : ∀ k : Fin 16, (⟨#[48, 49, 50, 51, 52, 53, 54, 55, 56, 57, 97, 98, 99, 100, 101, 102]⟩ : ByteArray)[k.val]'k.isLt = hexd k.val := by decide
  exact this ⟨n, h'⟩
set_option maxRecDepth 100000 in
theorem and_fifteen (b : UInt8) : bits .and .u8 (b.toNat : Int) 15 = (b.toNat : Int) % 16 := by
  have h : ∀ x : Fin 256, bits .and .u8 (x.val : Int) 15 = (x.val : Int) % 16 := by decide
  exact h ⟨b.toNat, b.toNat_lt⟩
set_option maxRecDepth 100000 in
set_option maxHeartbeats 2000000 in
theorem hexOut_calls (s : ByteArray) (w : World) (hs : s.size ≤ 140737488351232) :
    Calls Tryz.prog 194 #[.string s] w fun e w' => e = .returned (strV (hexed s.data.toList)) ∧ Below w.heap.size w w' := by
  obtain ⟨i0, hi, hz0, hz1, hz2⟩ := info_parts info5
  obtain ⟨r, hr⟩ : ∃ r, hexed s.data.toList = r := ⟨_, rfl⟩
  rw [hr]
  have Hr := Lib.hid hr
  clear hr
  go_enter Tryz.func194, Tryz.ntmps194
  go_wp2_with (at_make; refine wpList_make_own _ rfl _ _ 88 rfl w.heap.size 5 i0 (.int .u8 0) 1 Tryz.underlying88 hi hz0 hz1 _ _ _ (2 * s.size) rfl rfl (by omega) (by rw [hz2]; omega) (by unfold maxLen; omega) (Nat.le_refl _) ?_; intro w1 hown1 hgr1)
  have hb1 : Below w.heap.size w w1 := (Below.refl _ _).grown hgr1 (Nat.le_refl _) (by simp)
  obtain ⟨g, hg⟩ : ∃ g, g = w.heap.size := ⟨_, rfl⟩
  rw [← hg] at hown1
  have Hown1 := Lib.hid hown1
  have Hb1 := Lib.hid hb1
  rw [← hg]
  clear hown1 hb1 hgr1
  have Hg := Lib.hid hg
  clear hg
  go_loopg [3, 11] s.size (fun k v iv wr => ∃ (i j : Nat) (l : List UInt8), i ≤ s.size ∧ s.size - i ≤ k ∧ iv = .int .i64 i ∧ v = .slice (some ⟨g, 0, none⟩) j (2 * s.size) ∧ Hid (j = 2 * i) ∧ Hid (wr.ownsRow g 5 1 (.slice (some ⟨g, 0, none⟩) j (2 * s.size)) j (bytesV l)) ∧ Hid (r = l ++ hexed (rest s i)) ∧ Hid (Below g w wr))
  case atStart => exact ⟨0, 0, [], Nat.zero_le _, Nat.le_refl _, rfl, rfl, rfl, Hown1.out, by rw [← Hr.out]; rfl, by rw [Hg.out]; exact Hb1.out⟩
  case round =>
    obtain ⟨i, j, l, hi', hk, rfl, rfl, hij, hown, hu, hb⟩ := hrel
    by_cases hlt : i < s.size
    · have hB0 := byte_le (s[i]'hlt)
      have Hrt := Lib.hid (rest_lt hlt)
      have hjc : j + 2 ≤ 2 * s.size := by have := hij.out; omega
      go_wp2_with fail
      have q1 : (0 : Int) ≤ (s[i].toNat : Int) / 16 := by omega
      have q2 : (s[i].toNat : Int) / 16 < 16 := by omega
      have q0 := and_fifteen (s[i]'hlt)
      have q3 : (0 : Int) ≤ (s[i].toNat : Int) % 16 := by omega
      have q4 : (s[i].toNat : Int) % 16 < 16 := by omega
      go_region_law (refine step_append_fits rfl _ _ 88 rfl g 5 i0 1 Tryz.underlying88 hi hz1 g j (2 * s.size) (bytesV l) rfl ((own_drewN hown.out 1).alloc _) ⟨wr.heap.size, 0, none⟩ 2 2 [_, _] rfl rfl (cell_two_new _ _ _ _) (by simp [Value.oneCell']) hjc ?_; intro w2 hown2 hgr2)
      all_goals
        simp only [digs_at] at hown2
        have e1 : ((s[i].toNat : Int) / 16).toNat = s[i].toNat / 16 := by omega
        have e2 : ((s[i].toNat : Int) % 16).toNat = s[i].toNat % 16 := by omega
        rw [e1, e2] at hown2
        have hv : bytesV l ++ [Value.int .u8 ((hexd (s[i].toNat / 16)).toNat : Int), Value.int .u8 ((hexd (s[i].toNat % 16)).toNat : Int)] = bytesV (l ++ [hexd (s[i].toNat / 16), hexd (s[i].toNat % 16)]) := by simp [bytesV]
        rw [hv] at hown2
        have Hown2 := Lib.hid hown2
        have Hs : Hid (r = (l ++ [hexd (s[i].toNat / 16), hexd (s[i].toNat % 16)]) ++ hexed (rest s (i + 1))) := by
          show r = _
          rw [hu.out, Hrt.out]
          simp [hexed]
        have Hb2 := Lib.hid ((((hb.out.drewN' 1).alloc (by have := (hown.out.lt g rfl).2; simp; omega) _).grown hgr2 (by have := (hown.out.lt g rfl).2; simp; omega) (fun k hk => by simp at hk; omega)))
        clear hgr2 hown2 hv e1 e2
        go_wp2_with fail
        go_roundg (s.size - (i + 1))
        case measure => omega
        case rel => exact ⟨i + 1, j + 2, _, by omega, Nat.le_refl _, by go_num, rfl, by have := hij.out; exact (by omega : j + 2 = 2 * (i + 1)), Hown2.out, Hs.out, Hb2.out⟩
    · have Hc := Lib.hid (convert_own hown.out (Nat.le_refl _) (2 * s.size))
      have hc := Hc.out
      go_wp2_with fail
      go_ret
      refine ⟨?_, by have := hb.out; rw [Hg.out] at this; exact this⟩
      have hn : l.length = j := by have := hown.out.1; rw [bytesV_length] at this; omega
      rw [hu.out, rest_ge (by omega)]
      simp [hexed, strV, ← hn]
end Sy
end Go.Proofs.YthoealembhkaoaaGreatDoor
