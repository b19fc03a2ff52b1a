import Derived.Test.YthoealembhkaoaaGreatDoorFm29
namespace Go.Proofs.YthoealembhkaoaaGreatDoor
open Go.RowKit
namespace Sy
set_option linter.unusedVariables false
set_option maxRecDepth 100000
set_option maxHeartbeats 8000000 in
theorem l3_esc (w w10 : World) (B k base gk j n keep : Nat) (s tn : ByteArray) (r : Option (Pair × List UInt8)) (b : List UInt8) (hs : s.size < 4294967281) (hkb : k < base) (hj : j ≤ s.size) (hk : s.size - j ≤ gk) (hbj : b.length ≤ j) (hkl : keep ≤ b.length) (hs10 : base ≤ w10.heap.size)
    (c1 c4 c6 c7 c12 c13 c14 c15 c16 c17 c18 c19 c20 c21 c22 c23 c24 c25 c26 c27 c28 c29 c30 c31 c32 c33 c34 c35 c36 c37 c38 c39 c40 c41 c42 c43 c44 c45 c46 c47 c48 c49 c50 c51 c52 c53 c54 c55 c56 c57 c58 c59 c60 c61 c62 c63 c64 c65 c66 c67 c68 c69 c70 c71 c72 c73 c74 c75 c76 c77 c78 c79 c80 c81 c82 c83 c84 c85 c86 c87 c88 c89 c90 c91 c92 c93 c94 c95 c96 c97 c98 c99 c100 c101 c102 c103 c104 c105 c106 c107 c108 c109 c110 c111 c112 c113 c114 c115 c116 c117 c118 c119 c120 c121 c122 c123 c124 c125 c126 c127 c128 c129 c130 c131 c132 c133 c134 c135 c136 c137 c138 c139 c140 c141 c142 c143 c144 c145 c146 c147 c148 c149 c150 c151 c152 c153 c154 c155 c156 c157 c158 c159 c160 c161 c162 c163 c164 c165 c166 c167 c168 c169 c170 c171 c172 c173 c174 c175 c176 c177 c178 c179 c180 c181 c182 c333 c334 c335 c336 c337 c338 p3 p8 p9 p10 p11 p183 p184 p185 p186 p187 p188 p189 p190 p191 p192 p193 p194 p195 p196 p197 p198 p199 p200 p201 p202 p203 p204 p205 p206 p207 p208 p209 p210 p211 p212 p213 p214 p215 p216 p217 p218 p219 p220 p221 p222 p223 p224 p225 p226 p227 p228 p229 p230 p231 p232 p233 p234 p235 p236 p237 p238 p239 p240 p241 p242 p243 p244 p245 p246 p247 p248 p249 p250 p251 p252 p253 p254 p255 p256 p257 p258 p259 p260 p261 p262 p263 p264 p265 p266 p267 p268 p269 p270 p271 p272 p273 p274 p275 p276 p277 p278 p279 p280 p281 p282 p283 p284 p285 p286 p287 p288 p289 p290 p291 p292 p293 p294 p295 p296 p297 p298 p299 p300 p301 p302 p303 p304 p305 p306 p307 p308 p309 p310 p311 p312 p313 p314 p315 p316 p317 p318 p319 p320 p321 p322 p323 p324 p325 p326 p327 p328 p329 p330 p331 p332 : Value) (O10 : Hid (w10.ownsRow base 5 1 p8 b.length (bytesV b))) (hval : Hid ((rest s j).length < n ∧ (rValL n b keep (rest s j)).map (fun x : List UInt8 × List UInt8 => ((tn.data.toList, x.1), x.2)) = r)) (P10 : Hid (Pst w w10 B k s j (.string tn) (.string ⟨#[]⟩)))
    (hlt : j < s.size) (h92 : s[j]'hlt = 92) (h1 : j + 1 < s.size) (HESC : escapable.data.toList.contains (s[j + 1]'h1) = true) (J : Nat → Act → World → Prop) (K : Act → World → Prop) (Q : Exit → Act → World → Prop)
    (hJ : ∀ k' a' w', L3I w B k base s tn r c1 c4 c6 c7 c12 c13 c14 c15 c16 c17 c18 c19 c20 c21 c22 c23 c24 c25 c26 c27 c28 c29 c30 c31 c32 c33 c34 c35 c36 c37 c38 c39 c40 c41 c42 c43 c44 c45 c46 c47 c48 c49 c50 c51 c52 c53 c54 c55 c56 c57 c58 c59 c60 c61 c62 c63 c64 c65 c66 c67 c68 c69 c70 c71 c72 c73 c74 c75 c76 c77 c78 c79 c80 c81 c82 c83 c84 c85 c86 c87 c88 c89 c90 c91 c92 c93 c94 c95 c96 c97 c98 c99 c100 c101 c102 c103 c104 c105 c106 c107 c108 c109 c110 c111 c112 c113 c114 c115 c116 c117 c118 c119 c120 c121 c122 c123 c124 c125 c126 c127 c128 c129 c130 c131 c132 c133 c134 c135 c136 c137 c138 c139 c140 c141 c142 c143 c144 c145 c146 c147 c148 c149 c150 c151 c152 c153 c154 c155 c156 c157 c158 c159 c160 c161 c162 c163 c164 c165 c166 c167 c168 c169 c170 c171 c172 c173 c174 c175 c176 c177 c178 c179 c180 c181 c182 c333 c334 c335 c336 c337 c338 k' a' w' → J k' a' w') (hK : ∀ a' w', Handed J gk a' w' → K a' w')
    (hX : ∀ a' w', L3X w B k base s tn r c1 c4 c6 c7 c12 c13 c14 c15 c16 c17 c18 c19 c20 c21 c22 c23 c24 c25 c26 c27 c28 c29 c30 c31 c32 c33 c34 c35 c36 c37 c38 c39 c40 c41 c42 c43 c44 c45 c46 c47 c48 c49 c50 c51 c52 c53 c54 c55 c56 c57 c58 c59 c60 c61 c62 c63 c64 c65 c66 c67 c68 c69 c70 c71 c72 c73 c74 c75 c76 c77 c78 c79 c80 c81 c82 c83 c84 c85 c86 c87 c88 c89 c90 c91 c92 c93 c94 c95 c96 c97 c98 c99 c100 c101 c102 c103 c104 c105 c106 c107 c108 c109 c110 c111 c112 c113 c114 c115 c116 c117 c118 c119 c120 c121 c122 c123 c124 c125 c126 c127 c128 c129 c130 c131 c132 c133 c134 c135 c136 c137 c138 c139 c140 c141 c142 c143 c144 c145 c146 c147 c148 c149 c150 c151 c152 c153 c154 c155 c156 c157 c158 c159 c160 c161 c162 c163 c164 c165 c166 c167 c168 c169 c170 c171 c172 c173 c174 c175 c176 c177 c178 c179 c180 c181 c182 c333 c334 c335 c336 c337 c338 a' w' → Q (.exit 4) a' w') (hF : ∀ a' w', L3F w B k tn r c1 c4 c6 c7 c12 c13 c14 c15 c16 c17 c18 c19 c20 c21 c22 c23 c24 c25 c26 c27 c28 c29 c30 c31 c32 c33 c34 c35 c36 c37 c38 c39 c40 c41 c42 c43 c44 c45 c46 c47 c48 c49 c50 c51 c52 c53 c54 c55 c56 c57 c58 c59 c60 c61 c62 c63 c64 c65 c66 c67 c68 c69 c70 c71 c72 c73 c74 c75 c76 c77 c78 c79 c80 c81 c82 c83 c84 c85 c86 c87 c88 c89 c90 c91 c92 c93 c94 c95 c96 c97 c98 c99 c100 c101 c102 c103 c104 c105 c106 c107 c108 c109 c110 c111 c112 c113 c114 c115 c116 c117 c118 c119 c120 c121 c122 c123 c124 c125 c126 c127 c128 c129 c130 c131 c132 c133 c134 c135 c136 c137 c138 c139 c140 c141 c142 c143 c144 c145 c146 c147 c148 c149 c150 c151 c152 c153 c154 c155 c156 c157 c158 c159 c160 c161 c162 c163 c164 c165 c166 c167 c168 c169 c170 c171 c172 c173 c174 c175 c176 c177 c178 c179 c180 c181 c182 c333 c334 c335 c336 c337 c338 a' w' → Q .ret a' w') :
    Code.wp Tryz.prog pairBody (Exit.then K Q) ⟨#[.pointer (some ⟨B, 0, none⟩), c1, .pointer (some ⟨w.heap.size, 0, none⟩), p3, c4, .pointer (some ⟨k, 0, none⟩), c6, c7, p8, .int .i64 (keep : Int), p10, p11, c12, c13, c14, c15, c16, c17, c18, c19, c20, c21, c22, c23, c24, c25, c26, c27, c28, c29, c30, c31, c32, c33, c34, c35, c36, c37, c38, c39, c40, c41, c42, c43, c44, c45, c46, c47, c48, c49, c50, c51, c52, c53, c54, c55, c56, c57, c58, c59, c60, c61, c62, c63, c64, c65, c66, c67, c68, c69, c70, c71, c72, c73, c74, c75, c76, c77, c78, c79, c80, c81, c82, c83, c84, c85, c86, c87, c88, c89, c90, c91, c92, c93, c94, c95, c96, c97, c98, c99, c100, c101, c102, c103, c104, c105, c106, c107, c108, c109, c110, c111, c112, c113, c114, c115, c116, c117, c118, c119, c120, c121, c122, c123, c124, c125, c126, c127, c128, c129, c130, c131, c132, c133, c134, c135, c136, c137, c138, c139, c140, c141, c142, c143, c144, c145, c146, c147, c148, c149, c150, c151, c152, c153, c154, c155, c156, c157, c158, c159, c160, c161, c162, c163, c164, c165, c166, c167, c168, c169, c170, c171, c172, c173, c174, c175, c176, c177, c178, c179, c180, c181, c182, p183, p184, p185, p186, p187, p188, p189, p190, p191, p192, p193, p194, p195, p196, p197, p198, p199, p200, p201, p202, p203, p204, p205, p206, p207, p208, p209, p210, p211, p212, p213, p214, p215, p216, p217, p218, p219, p220, p221, p222, p223, p224, p225, p226, p227, p228, p229, p230, p231, p232, p233, p234, p235, p236, p237, p238, p239, p240, p241, p242, p243, p244, p245, p246, p247, p248, p249, p250, p251, p252, p253, p254, p255, p256, p257, p258, p259, p260, p261, p262, p263, p264, p265, p266, p267, p268, p269, p270, p271, p272, p273, p274, p275, p276, p277, p278, p279, p280, p281, p282, p283, p284, p285, p286, p287, p288, p289, p290, p291, p292, p293, p294, p295, p296, p297, p298, p299, p300, p301, p302, p303, p304, p305, p306, p307, p308, p309, p310, p311, p312, p313, p314, p315, p316, p317, p318, p319, p320, p321, p322, p323, p324, p325, p326, p327, p328, p329, p330, p331, p332, c333, c334, c335, c336, c337, c338], []⟩ w10 := by
  conv => arg 2; whnf
  have hs' : s.size ≤ 4294967296 := by omega
  obtain ⟨i0, hi0, hz0, hz1, hz2⟩ := info_parts info5
  have hBb : B < base := by have := P10.out.lt; have := P10.out.le; omega
  have HESC' := Lib.hid HESC
  clear HESC
  have H92 := Lib.hid h92
  clear h92
  have hdl : decide ((j : Int) < (s.size : Int)) = true := by simpa using hlt
  obtain ⟨n, rfl⟩ : ∃ m, n = m + 1 := ⟨n - 1, by have := hval.out.1; omega⟩
  have Hst : Hid ((rest s (j + 1)).length < n ∧ (if s[j]'hlt = 92 then
      match escR (rest s (j + 1)) with
      | some (x, l') => rValL n (b ++ [x]) (b.length + 1) l'
      | none => none
    else if s[j]'hlt = 0 ∨ special.data.toList.contains (s[j]'hlt) = true then some (b.take keep, rest s j)
    else rValL n (b ++ [s[j]'hlt]) (if s[j]'hlt = 32 then keep else b.length + 1) (rest s (j + 1))).map (fun x : List UInt8 × List UInt8 => ((tn.data.toList, x.1), x.2)) = r) := by
    have h := hval.out
    rw [rest_lt hlt] at h ⊢
    simp only [rValL, List.length_cons] at h
    exact ⟨by omega, h.2⟩
  clear hval
  go_wp2_with fail
  have c0 := P10.out.dk.c0
  have c1 := P10.out.dk.c1
  go_quiet (fail)
  clear c0 c1
  have P11 := Lib.hid (P10.out.drewN nq)
  have O11 := Lib.hid (own_drewN O10.out nq)
  have hs11 : base ≤ (w10.drewN nq).heap.size := hs10
  generalize w10.drewN nq = w11 at P11 O11 hs11 ⊢
  clear P10 O10 hs10

  go_wp2_with fail
  have c0 := P11.out.dk.c0
  have c1 := P11.out.dk.c1
  go_quiet (fail)
  clear c0 c1
  have P12 := Lib.hid (P11.out.drewN nq)
  have O12 := Lib.hid (own_drewN O11.out nq)
  have hs12 : base ≤ (w11.drewN nq).heap.size := hs11
  generalize w11.drewN nq = w12 at P12 O12 hs12 ⊢
  clear P11 O11 hs11

  obtain ⟨c, hc⟩ : ∃ c, s[j]'hlt = c := ⟨_, rfl⟩
  have h92 := H92.out
  rw [hc] at Hst h92 ⊢
  clear hc hdl H92
  have e92 : ((c.toNat : Int) == 92) = true := by rw [h92]; rfl
  have Hst2 : Hid ((rest s (j + 1)).length < n ∧ (match escR (rest s (j + 1)) with
    | some (x, l') => rValL n (b ++ [x]) (b.length + 1) l'
    | none => none).map (fun x : List UInt8 × List UInt8 => ((tn.data.toList, x.1), x.2)) = r) := by
    have h := Hst.out
    rw [if_pos h92] at h
    exact h
  clear Hst h92
  have n1 : IntKind.i64.wrap ((j : Int) + 1) = (j : Int) + 1 := IntWalk.i64_in _ (by omega)
  go_wp2_with fail
  have h1' : decide ((s.size : Int) ≤ (j : Int) + 1) = false := by simpa using (by omega : (j : Int) + 1 < (s.size : Int))
  have r1 : (0 : Int) ≤ (j : Int) + 1 := by omega
  have r2 : ((j : Int) + 1).toNat = j + 1 := by omega
  have r3 : (j : Int) + 1 < (s.size : Int) := by omega
  have c0 := P12.out.dk.c0
  have c1 := P12.out.dk.c1
  go_quiet (fail)
  clear c0 c1
  have P13 := Lib.hid (P12.out.drewN nq)
  have O13 := Lib.hid (own_drewN O12.out nq)
  have hs13 : base ≤ (w12.drewN nq).heap.size := hs12
  generalize w12.drewN nq = w13 at P13 O13 hs13 ⊢
  clear P12 O12 hs12
  go_wp2_with fail
  have c0 := P13.out.dk.c0
  have c1 := P13.out.dk.c1
  go_quiet (fail)
  clear c0 c1
  have P14 := Lib.hid (P13.out.drewN nq)
  have O14 := Lib.hid (own_drewN O13.out nq)
  have hs14 : base ≤ (w13.drewN nq).heap.size := hs13
  generalize w13.drewN nq = w14 at P14 O14 hs14 ⊢
  clear P13 O13 hs13
  obtain ⟨d, hd⟩ : ∃ d, s[j + 1]'h1 = d := ⟨_, rfl⟩
  have Hst3 : Hid ((rest s (j + 2)).length < n ∧ (match escR (d :: rest s (j + 2)) with
    | some (x, l') => rValL n (b ++ [x]) (b.length + 1) l'
    | none => none).map (fun x : List UInt8 × List UInt8 => ((tn.data.toList, x.1), x.2)) = r) := by
    have h := Hst2.out
    rw [rest_lt h1, hd, show j + 1 + 1 = j + 2 from rfl] at h
    simp only [List.length_cons] at h
    exact ⟨by omega, h.2⟩
  have HESC := HESC'.out
  rw [hd] at HESC ⊢
  clear hd Hst2 r1 r2 r3 h1' n1 HESC'
  have HE := Lib.hid HESC
  clear HESC
  go_upto_region 28 with fail
  go_cut [239] from 183 to 332 (fun ev wx => ev = .bool (escapable.data.toList.contains d) ∧ w14 = wx)
  case first =>
    rcases esc_split d with ⟨q0, q1⟩ | ⟨q0, q1, q2⟩ | ⟨q0, q1, q2, q3⟩ | ⟨q0, q1, q2, q3, q4⟩ | ⟨q0, q1, q2, q3, q4⟩
    all_goals
      have hsp := fun W => rSpecial_calls (d.toNat : Int) W
      rw [q1] at hsp
      have Q0 := Lib.hid q0
      clear q0 q1
      go_wp2_with (go_at_call 159; refine (hsp _).mono ?_; rintro e w9 ⟨rfl, rfl⟩)
      go_meet
      exact ⟨congrArg Value.bool Q0.out.symm, rfl⟩
  case rest =>
    obtain ⟨hev, hwc⟩ := hcut
    subst hev
    subst hwc
    have HESC := HE.out
    rw [HESC]
    have Hst4 : Hid ((rest s (j + 2)).length < n ∧ (rValL n (b ++ [d]) (b.length + 1) (rest s (j + 2))).map (fun x : List UInt8 × List UInt8 => ((tn.data.toList, x.1), x.2)) = r) := by
      have h := Hst3.out
      rw [escR_cons, if_pos HESC] at h
      exact h
    clear HESC Hst3
    go_wp2_with (at_builtin; refine wpList_append_own _ rfl _ _ 88 rfl base 5 i0 (.int .u8 0) 1 1 Tryz.underlying88 hi0 hz0 hz1 hz2 rfl (by decide) _ _ _ rfl (O14.out.alloc _) ⟨w14.heap.size, 0, none⟩ 1 1 [.int .u8 (d.toNat : Int)] rfl rfl ?c1 ?c2 ?c3 ?c4 ?c5 ?_)
    case c1 => exact cell_one_new _ _ _
    case c2 => simp [Value.oneCell']
    case c3 => unfold maxLen; omega
    case c4 => omega
    case c5 => first | omega | (simp; omega)
    intro v15 w15 hown15 hgr15 _
    have P15 := Lib.hid ((P14.out.alloc _).grown hgr15 (fun g e => by have := own_base_le O14.out g e; omega))
    have O15 := Lib.hid hown15
    rw [← bytesV_snoc] at O15
    have hs15 : base ≤ w15.heap.size := by have := hgr15.size; simp at this; omega
    obtain ⟨y15, z15, hv15⟩ := own_slice hown15
    subst hv15
    clear hown15 hgr15 P14 O14 hs14
    have c1 := P15.out.dk.c1
    have f1 := P15.out.dk.f1
    have P16 := Lib.hid (P15.out.step (j + 2))
    rw [show ((j + 2 : Nat) : Int) = (j : Int) + 2 by omega] at P16
    have G16 : Hid (w15.grownBy (w15.setCell ⟨B, 1, none⟩ (.int .i64 ((j : Int) + 2))) (some B)) := (Gr.refl B w15).setCell _ _
    have O16 := Lib.hid (O15.out.kept G16.out (own_ne O15.out (by omega)))
    have hs16 : base ≤ (w15.setCell ⟨B, 1, none⟩ (.int .i64 ((j : Int) + 2))).heap.size := Nat.le_trans hs15 G16.out.size
    go_wp2_with fail
    refine Handed.intro (s.size - (j + 2)) ?measure ?_
    rotate_left
    go_step
    unfold L3I
    (repeat apply Exists.intro)
    refine ⟨?rel, rfl⟩
    case measure => omega
    case rel => exact ⟨j + 2, n, b.length + 1, b ++ [d], by omega, Nat.le_refl _, by simp; omega, by simp, by go_num, hs16, by rw [List.length_append]; exact O16.out, Hst4.out, P16.out⟩
set_option maxHeartbeats 8000000 in
theorem l3_dno (w w10 : World) (B k base gk j n keep : Nat) (s tn : ByteArray) (r : Option (Pair × List UInt8)) (b : List UInt8) (hs : s.size < 4294967281) (hkb : k < base) (hj : j ≤ s.size) (hk : s.size - j ≤ gk) (hbj : b.length ≤ j) (hkl : keep ≤ b.length) (hs10 : base ≤ w10.heap.size)
    (c1 c4 c6 c7 c12 c13 c14 c15 c16 c17 c18 c19 c20 c21 c22 c23 c24 c25 c26 c27 c28 c29 c30 c31 c32 c33 c34 c35 c36 c37 c38 c39 c40 c41 c42 c43 c44 c45 c46 c47 c48 c49 c50 c51 c52 c53 c54 c55 c56 c57 c58 c59 c60 c61 c62 c63 c64 c65 c66 c67 c68 c69 c70 c71 c72 c73 c74 c75 c76 c77 c78 c79 c80 c81 c82 c83 c84 c85 c86 c87 c88 c89 c90 c91 c92 c93 c94 c95 c96 c97 c98 c99 c100 c101 c102 c103 c104 c105 c106 c107 c108 c109 c110 c111 c112 c113 c114 c115 c116 c117 c118 c119 c120 c121 c122 c123 c124 c125 c126 c127 c128 c129 c130 c131 c132 c133 c134 c135 c136 c137 c138 c139 c140 c141 c142 c143 c144 c145 c146 c147 c148 c149 c150 c151 c152 c153 c154 c155 c156 c157 c158 c159 c160 c161 c162 c163 c164 c165 c166 c167 c168 c169 c170 c171 c172 c173 c174 c175 c176 c177 c178 c179 c180 c181 c182 c333 c334 c335 c336 c337 c338 p3 p8 p9 p10 p11 p183 p184 p185 p186 p187 p188 p189 p190 p191 p192 p193 p194 p195 p196 p197 p198 p199 p200 p201 p202 p203 p204 p205 p206 p207 p208 p209 p210 p211 p212 p213 p214 p215 p216 p217 p218 p219 p220 p221 p222 p223 p224 p225 p226 p227 p228 p229 p230 p231 p232 p233 p234 p235 p236 p237 p238 p239 p240 p241 p242 p243 p244 p245 p246 p247 p248 p249 p250 p251 p252 p253 p254 p255 p256 p257 p258 p259 p260 p261 p262 p263 p264 p265 p266 p267 p268 p269 p270 p271 p272 p273 p274 p275 p276 p277 p278 p279 p280 p281 p282 p283 p284 p285 p286 p287 p288 p289 p290 p291 p292 p293 p294 p295 p296 p297 p298 p299 p300 p301 p302 p303 p304 p305 p306 p307 p308 p309 p310 p311 p312 p313 p314 p315 p316 p317 p318 p319 p320 p321 p322 p323 p324 p325 p326 p327 p328 p329 p330 p331 p332 : Value) (O10 : Hid (w10.ownsRow base 5 1 p8 b.length (bytesV b))) (hval : Hid ((rest s j).length < n ∧ (rValL n b keep (rest s j)).map (fun x : List UInt8 × List UInt8 => ((tn.data.toList, x.1), x.2)) = r)) (P10 : Hid (Pst w w10 B k s j (.string tn) (.string ⟨#[]⟩)))
    (hlt : j < s.size) (h92 : s[j]'hlt = 92) (h1 : j + 1 < s.size) (HESC : escapable.data.toList.contains (s[j + 1]'h1) = false) (h2 : ¬ j + 2 < s.size) (J : Nat → Act → World → Prop) (K : Act → World → Prop) (Q : Exit → Act → World → Prop)
    (hJ : ∀ k' a' w', L3I w B k base s tn r c1 c4 c6 c7 c12 c13 c14 c15 c16 c17 c18 c19 c20 c21 c22 c23 c24 c25 c26 c27 c28 c29 c30 c31 c32 c33 c34 c35 c36 c37 c38 c39 c40 c41 c42 c43 c44 c45 c46 c47 c48 c49 c50 c51 c52 c53 c54 c55 c56 c57 c58 c59 c60 c61 c62 c63 c64 c65 c66 c67 c68 c69 c70 c71 c72 c73 c74 c75 c76 c77 c78 c79 c80 c81 c82 c83 c84 c85 c86 c87 c88 c89 c90 c91 c92 c93 c94 c95 c96 c97 c98 c99 c100 c101 c102 c103 c104 c105 c106 c107 c108 c109 c110 c111 c112 c113 c114 c115 c116 c117 c118 c119 c120 c121 c122 c123 c124 c125 c126 c127 c128 c129 c130 c131 c132 c133 c134 c135 c136 c137 c138 c139 c140 c141 c142 c143 c144 c145 c146 c147 c148 c149 c150 c151 c152 c153 c154 c155 c156 c157 c158 c159 c160 c161 c162 c163 c164 c165 c166 c167 c168 c169 c170 c171 c172 c173 c174 c175 c176 c177 c178 c179 c180 c181 c182 c333 c334 c335 c336 c337 c338 k' a' w' → J k' a' w') (hK : ∀ a' w', Handed J gk a' w' → K a' w')
    (hX : ∀ a' w', L3X w B k base s tn r c1 c4 c6 c7 c12 c13 c14 c15 c16 c17 c18 c19 c20 c21 c22 c23 c24 c25 c26 c27 c28 c29 c30 c31 c32 c33 c34 c35 c36 c37 c38 c39 c40 c41 c42 c43 c44 c45 c46 c47 c48 c49 c50 c51 c52 c53 c54 c55 c56 c57 c58 c59 c60 c61 c62 c63 c64 c65 c66 c67 c68 c69 c70 c71 c72 c73 c74 c75 c76 c77 c78 c79 c80 c81 c82 c83 c84 c85 c86 c87 c88 c89 c90 c91 c92 c93 c94 c95 c96 c97 c98 c99 c100 c101 c102 c103 c104 c105 c106 c107 c108 c109 c110 c111 c112 c113 c114 c115 c116 c117 c118 c119 c120 c121 c122 c123 c124 c125 c126 c127 c128 c129 c130 c131 c132 c133 c134 c135 c136 c137 c138 c139 c140 c141 c142 c143 c144 c145 c146 c147 c148 c149 c150 c151 c152 c153 c154 c155 c156 c157 c158 c159 c160 c161 c162 c163 c164 c165 c166 c167 c168 c169 c170 c171 c172 c173 c174 c175 c176 c177 c178 c179 c180 c181 c182 c333 c334 c335 c336 c337 c338 a' w' → Q (.exit 4) a' w') (hF : ∀ a' w', L3F w B k tn r c1 c4 c6 c7 c12 c13 c14 c15 c16 c17 c18 c19 c20 c21 c22 c23 c24 c25 c26 c27 c28 c29 c30 c31 c32 c33 c34 c35 c36 c37 c38 c39 c40 c41 c42 c43 c44 c45 c46 c47 c48 c49 c50 c51 c52 c53 c54 c55 c56 c57 c58 c59 c60 c61 c62 c63 c64 c65 c66 c67 c68 c69 c70 c71 c72 c73 c74 c75 c76 c77 c78 c79 c80 c81 c82 c83 c84 c85 c86 c87 c88 c89 c90 c91 c92 c93 c94 c95 c96 c97 c98 c99 c100 c101 c102 c103 c104 c105 c106 c107 c108 c109 c110 c111 c112 c113 c114 c115 c116 c117 c118 c119 c120 c121 c122 c123 c124 c125 c126 c127 c128 c129 c130 c131 c132 c133 c134 c135 c136 c137 c138 c139 c140 c141 c142 c143 c144 c145 c146 c147 c148 c149 c150 c151 c152 c153 c154 c155 c156 c157 c158 c159 c160 c161 c162 c163 c164 c165 c166 c167 c168 c169 c170 c171 c172 c173 c174 c175 c176 c177 c178 c179 c180 c181 c182 c333 c334 c335 c336 c337 c338 a' w' → Q .ret a' w') :
    Code.wp Tryz.prog pairBody (Exit.then K Q) ⟨#[.pointer (some ⟨B, 0, none⟩), c1, .pointer (some ⟨w.heap.size, 0, none⟩), p3, c4, .pointer (some ⟨k, 0, none⟩), c6, c7, p8, .int .i64 (keep : Int), p10, p11, c12, c13, c14, c15, c16, c17, c18, c19, c20, c21, c22, c23, c24, c25, c26, c27, c28, c29, c30, c31, c32, c33, c34, c35, c36, c37, c38, c39, c40, c41, c42, c43, c44, c45, c46, c47, c48, c49, c50, c51, c52, c53, c54, c55, c56, c57, c58, c59, c60, c61, c62, c63, c64, c65, c66, c67, c68, c69, c70, c71, c72, c73, c74, c75, c76, c77, c78, c79, c80, c81, c82, c83, c84, c85, c86, c87, c88, c89, c90, c91, c92, c93, c94, c95, c96, c97, c98, c99, c100, c101, c102, c103, c104, c105, c106, c107, c108, c109, c110, c111, c112, c113, c114, c115, c116, c117, c118, c119, c120, c121, c122, c123, c124, c125, c126, c127, c128, c129, c130, c131, c132, c133, c134, c135, c136, c137, c138, c139, c140, c141, c142, c143, c144, c145, c146, c147, c148, c149, c150, c151, c152, c153, c154, c155, c156, c157, c158, c159, c160, c161, c162, c163, c164, c165, c166, c167, c168, c169, c170, c171, c172, c173, c174, c175, c176, c177, c178, c179, c180, c181, c182, p183, p184, p185, p186, p187, p188, p189, p190, p191, p192, p193, p194, p195, p196, p197, p198, p199, p200, p201, p202, p203, p204, p205, p206, p207, p208, p209, p210, p211, p212, p213, p214, p215, p216, p217, p218, p219, p220, p221, p222, p223, p224, p225, p226, p227, p228, p229, p230, p231, p232, p233, p234, p235, p236, p237, p238, p239, p240, p241, p242, p243, p244, p245, p246, p247, p248, p249, p250, p251, p252, p253, p254, p255, p256, p257, p258, p259, p260, p261, p262, p263, p264, p265, p266, p267, p268, p269, p270, p271, p272, p273, p274, p275, p276, p277, p278, p279, p280, p281, p282, p283, p284, p285, p286, p287, p288, p289, p290, p291, p292, p293, p294, p295, p296, p297, p298, p299, p300, p301, p302, p303, p304, p305, p306, p307, p308, p309, p310, p311, p312, p313, p314, p315, p316, p317, p318, p319, p320, p321, p322, p323, p324, p325, p326, p327, p328, p329, p330, p331, p332, c333, c334, c335, c336, c337, c338], []⟩ w10 := by
  conv => arg 2; whnf
  have hs' : s.size ≤ 4294967296 := by omega
  obtain ⟨i0, hi0, hz0, hz1, hz2⟩ := info_parts info5
  have hBb : B < base := by have := P10.out.lt; have := P10.out.le; omega
  have HESC' := Lib.hid HESC
  clear HESC
  have H92 := Lib.hid h92
  clear h92
  have hdl : decide ((j : Int) < (s.size : Int)) = true := by simpa using hlt
  obtain ⟨n, rfl⟩ : ∃ m, n = m + 1 := ⟨n - 1, by have := hval.out.1; omega⟩
  have Hst : Hid ((rest s (j + 1)).length < n ∧ (if s[j]'hlt = 92 then
      match escR (rest s (j + 1)) with
      | some (x, l') => rValL n (b ++ [x]) (b.length + 1) l'
      | none => none
    else if s[j]'hlt = 0 ∨ special.data.toList.contains (s[j]'hlt) = true then some (b.take keep, rest s j)
    else rValL n (b ++ [s[j]'hlt]) (if s[j]'hlt = 32 then keep else b.length + 1) (rest s (j + 1))).map (fun x : List UInt8 × List UInt8 => ((tn.data.toList, x.1), x.2)) = r) := by
    have h := hval.out
    rw [rest_lt hlt] at h ⊢
    simp only [rValL, List.length_cons] at h
    exact ⟨by omega, h.2⟩
  clear hval
  go_wp2_with fail
  have c0 := P10.out.dk.c0
  have c1 := P10.out.dk.c1
  go_quiet (fail)
  clear c0 c1
  have P11 := Lib.hid (P10.out.drewN nq)
  have O11 := Lib.hid (own_drewN O10.out nq)
  have hs11 : base ≤ (w10.drewN nq).heap.size := hs10
  generalize w10.drewN nq = w11 at P11 O11 hs11 ⊢
  clear P10 O10 hs10

  go_wp2_with fail
  have c0 := P11.out.dk.c0
  have c1 := P11.out.dk.c1
  go_quiet (fail)
  clear c0 c1
  have P12 := Lib.hid (P11.out.drewN nq)
  have O12 := Lib.hid (own_drewN O11.out nq)
  have hs12 : base ≤ (w11.drewN nq).heap.size := hs11
  generalize w11.drewN nq = w12 at P12 O12 hs12 ⊢
  clear P11 O11 hs11

  obtain ⟨c, hc⟩ : ∃ c, s[j]'hlt = c := ⟨_, rfl⟩
  have h92 := H92.out
  rw [hc] at Hst h92 ⊢
  clear hc hdl H92
  have e92 : ((c.toNat : Int) == 92) = true := by rw [h92]; rfl
  have Hst2 : Hid ((rest s (j + 1)).length < n ∧ (match escR (rest s (j + 1)) with
    | some (x, l') => rValL n (b ++ [x]) (b.length + 1) l'
    | none => none).map (fun x : List UInt8 × List UInt8 => ((tn.data.toList, x.1), x.2)) = r) := by
    have h := Hst.out
    rw [if_pos h92] at h
    exact h
  clear Hst h92
  have n1 : IntKind.i64.wrap ((j : Int) + 1) = (j : Int) + 1 := IntWalk.i64_in _ (by omega)
  go_wp2_with fail
  have h1' : decide ((s.size : Int) ≤ (j : Int) + 1) = false := by simpa using (by omega : (j : Int) + 1 < (s.size : Int))
  have r1 : (0 : Int) ≤ (j : Int) + 1 := by omega
  have r2 : ((j : Int) + 1).toNat = j + 1 := by omega
  have r3 : (j : Int) + 1 < (s.size : Int) := by omega
  have c0 := P12.out.dk.c0
  have c1 := P12.out.dk.c1
  go_quiet (fail)
  clear c0 c1
  have P13 := Lib.hid (P12.out.drewN nq)
  have O13 := Lib.hid (own_drewN O12.out nq)
  have hs13 : base ≤ (w12.drewN nq).heap.size := hs12
  generalize w12.drewN nq = w13 at P13 O13 hs13 ⊢
  clear P12 O12 hs12
  go_wp2_with fail
  have c0 := P13.out.dk.c0
  have c1 := P13.out.dk.c1
  go_quiet (fail)
  clear c0 c1
  have P14 := Lib.hid (P13.out.drewN nq)
  have O14 := Lib.hid (own_drewN O13.out nq)
  have hs14 : base ≤ (w13.drewN nq).heap.size := hs13
  generalize w13.drewN nq = w14 at P14 O14 hs14 ⊢
  clear P13 O13 hs13
  obtain ⟨d, hd⟩ : ∃ d, s[j + 1]'h1 = d := ⟨_, rfl⟩
  have Hst3 : Hid ((rest s (j + 2)).length < n ∧ (match escR (d :: rest s (j + 2)) with
    | some (x, l') => rValL n (b ++ [x]) (b.length + 1) l'
    | none => none).map (fun x : List UInt8 × List UInt8 => ((tn.data.toList, x.1), x.2)) = r) := by
    have h := Hst2.out
    rw [rest_lt h1, hd, show j + 1 + 1 = j + 2 from rfl] at h
    simp only [List.length_cons] at h
    exact ⟨by omega, h.2⟩
  have HESC := HESC'.out
  rw [hd] at HESC ⊢
  clear hd Hst2 r1 r2 r3 h1' n1 HESC'
  have HE := Lib.hid HESC
  clear HESC
  go_upto_region 28 with fail
  go_cut [239] from 183 to 332 (fun ev wx => ev = .bool (escapable.data.toList.contains d) ∧ w14 = wx)
  case first =>
    rcases esc_split d with ⟨q0, q1⟩ | ⟨q0, q1, q2⟩ | ⟨q0, q1, q2, q3⟩ | ⟨q0, q1, q2, q3, q4⟩ | ⟨q0, q1, q2, q3, q4⟩
    all_goals
      have hsp := fun W => rSpecial_calls (d.toNat : Int) W
      rw [q1] at hsp
      have Q0 := Lib.hid q0
      clear q0 q1
      go_wp2_with (go_at_call 159; refine (hsp _).mono ?_; rintro e w9 ⟨rfl, rfl⟩)
      go_meet
      exact ⟨congrArg Value.bool Q0.out.symm, rfl⟩
  case rest =>
    obtain ⟨hev, hwc⟩ := hcut
    subst hev
    subst hwc
    have HESC := HE.out
    rw [HESC]
    have n2 : IntKind.i64.wrap ((j : Int) + 2) = (j : Int) + 2 := IntWalk.i64_in _ (by omega)
    have h2' : decide ((s.size : Int) ≤ (j : Int) + 2) = true := by simpa using (by omega : (s.size : Int) ≤ (j : Int) + 2)
    have Hn : Hid (r = none) := by
      have h := Hst3.out.2
      rw [rest_ge (by omega), escR_cons, if_neg (by rw [HESC]; simp)] at h
      exact h.symm
    clear HESC Hst3
    go_wp2_with fail
    have c0 := P14.out.dk.c0
    have c1 := P14.out.dk.c1
    go_quiet ((go_at_call 157; exact rdigit_quiet _ _ _ (Int.natCast_nonneg _) (byte_le _)))
    clear c0 c1
    have P15 := Lib.hid (P14.out.drewN nq)
    have O15 := Lib.hid (own_drewN O14.out nq)
    have hs15 : base ≤ (w14.drewN nq).heap.size := hs14
    generalize w14.drewN nq = w15 at P15 O15 hs15 ⊢
    clear P14 O14 hs14
    clear n2 h2'
    have a0 := P15.out.xb.c0
    have a1 := P15.out.xb.c1
    have d0 := P15.out.cb.c0
    have d1 := P15.out.cb.c1
    have d2 := P15.out.cb.f0
    have d3 := P15.out.cb.f1
    have PF := P15.out.fail
    have GF := Lib.hid PF.2
    have TF := Lib.hid PF.1
    clear PF
    go_wp2_with fail
    (try refine hF _ _ ?_)
    unfold L3F
    (repeat apply Exists.intro)
    exact ⟨⟨rfl, Hn.out, TF.out, GF.out⟩, rfl⟩
end Sy
end Go.Proofs.YthoealembhkaoaaGreatDoor
