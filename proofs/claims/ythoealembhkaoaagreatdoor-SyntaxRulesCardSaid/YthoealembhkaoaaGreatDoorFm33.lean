import Derived.Test.YthoealembhkaoaaGreatDoorFm30
import Derived.Test.YthoealembhkaoaaGreatDoorFm31
import Derived.Test.YthoealembhkaoaaGreatDoorFm32
namespace Go.Proofs.YthoealembhkaoaaGreatDoor
open Go.RowKit
namespace Sy
set_option linter.unusedVariables false
set_option maxRecDepth 100000
set_option maxHeartbeats 4000000 in
theorem l3_loop (w wr : World) (B k base : Nat) (s tn : ByteArray) (r : Option (Pair × List UInt8)) (hs : s.size < 4294967281) (hkb : k < base) (c1 c4 c6 c7 c12 c13 c14 c15 c16 c17 c18 c19 c20 c21 c22 c23 c24 c25 c26 c27 c28 c29 c30 c31 c32 c33 c34 c35 c36 c37 c38 c39 c40 c41 c42 c43 c44 c45 c46 c47 c48 c49 c50 c51 c52 c53 c54 c55 c56 c57 c58 c59 c60 c61 c62 c63 c64 c65 c66 c67 c68 c69 c70 c71 c72 c73 c74 c75 c76 c77 c78 c79 c80 c81 c82 c83 c84 c85 c86 c87 c88 c89 c90 c91 c92 c93 c94 c95 c96 c97 c98 c99 c100 c101 c102 c103 c104 c105 c106 c107 c108 c109 c110 c111 c112 c113 c114 c115 c116 c117 c118 c119 c120 c121 c122 c123 c124 c125 c126 c127 c128 c129 c130 c131 c132 c133 c134 c135 c136 c137 c138 c139 c140 c141 c142 c143 c144 c145 c146 c147 c148 c149 c150 c151 c152 c153 c154 c155 c156 c157 c158 c159 c160 c161 c162 c163 c164 c165 c166 c167 c168 c169 c170 c171 c172 c173 c174 c175 c176 c177 c178 c179 c180 c181 c182 c333 c334 c335 c336 c337 c338 p3 p8 p9 p10 p11 p183 p184 p185 p186 p187 p188 p189 p190 p191 p192 p193 p194 p195 p196 p197 p198 p199 p200 p201 p202 p203 p204 p205 p206 p207 p208 p209 p210 p211 p212 p213 p214 p215 p216 p217 p218 p219 p220 p221 p222 p223 p224 p225 p226 p227 p228 p229 p230 p231 p232 p233 p234 p235 p236 p237 p238 p239 p240 p241 p242 p243 p244 p245 p246 p247 p248 p249 p250 p251 p252 p253 p254 p255 p256 p257 p258 p259 p260 p261 p262 p263 p264 p265 p266 p267 p268 p269 p270 p271 p272 p273 p274 p275 p276 p277 p278 p279 p280 p281 p282 p283 p284 p285 p286 p287 p288 p289 p290 p291 p292 p293 p294 p295 p296 p297 p298 p299 p300 p301 p302 p303 p304 p305 p306 p307 p308 p309 p310 p311 p312 p313 p314 p315 p316 p317 p318 p319 p320 p321 p322 p323 p324 p325 p326 p327 p328 p329 p330 p331 p332 : Value) (n0 : Nat) (hR : L3R w B k base s tn r n0 p8 p9 wr) (Q : Exit → Act → World → Prop)
    (hX : ∀ a' w', L3X w B k base s tn r c1 c4 c6 c7 c12 c13 c14 c15 c16 c17 c18 c19 c20 c21 c22 c23 c24 c25 c26 c27 c28 c29 c30 c31 c32 c33 c34 c35 c36 c37 c38 c39 c40 c41 c42 c43 c44 c45 c46 c47 c48 c49 c50 c51 c52 c53 c54 c55 c56 c57 c58 c59 c60 c61 c62 c63 c64 c65 c66 c67 c68 c69 c70 c71 c72 c73 c74 c75 c76 c77 c78 c79 c80 c81 c82 c83 c84 c85 c86 c87 c88 c89 c90 c91 c92 c93 c94 c95 c96 c97 c98 c99 c100 c101 c102 c103 c104 c105 c106 c107 c108 c109 c110 c111 c112 c113 c114 c115 c116 c117 c118 c119 c120 c121 c122 c123 c124 c125 c126 c127 c128 c129 c130 c131 c132 c133 c134 c135 c136 c137 c138 c139 c140 c141 c142 c143 c144 c145 c146 c147 c148 c149 c150 c151 c152 c153 c154 c155 c156 c157 c158 c159 c160 c161 c162 c163 c164 c165 c166 c167 c168 c169 c170 c171 c172 c173 c174 c175 c176 c177 c178 c179 c180 c181 c182 c333 c334 c335 c336 c337 c338 a' w' → Q (.exit 4) a' w') (hF : ∀ a' w', L3F w B k tn r c1 c4 c6 c7 c12 c13 c14 c15 c16 c17 c18 c19 c20 c21 c22 c23 c24 c25 c26 c27 c28 c29 c30 c31 c32 c33 c34 c35 c36 c37 c38 c39 c40 c41 c42 c43 c44 c45 c46 c47 c48 c49 c50 c51 c52 c53 c54 c55 c56 c57 c58 c59 c60 c61 c62 c63 c64 c65 c66 c67 c68 c69 c70 c71 c72 c73 c74 c75 c76 c77 c78 c79 c80 c81 c82 c83 c84 c85 c86 c87 c88 c89 c90 c91 c92 c93 c94 c95 c96 c97 c98 c99 c100 c101 c102 c103 c104 c105 c106 c107 c108 c109 c110 c111 c112 c113 c114 c115 c116 c117 c118 c119 c120 c121 c122 c123 c124 c125 c126 c127 c128 c129 c130 c131 c132 c133 c134 c135 c136 c137 c138 c139 c140 c141 c142 c143 c144 c145 c146 c147 c148 c149 c150 c151 c152 c153 c154 c155 c156 c157 c158 c159 c160 c161 c162 c163 c164 c165 c166 c167 c168 c169 c170 c171 c172 c173 c174 c175 c176 c177 c178 c179 c180 c181 c182 c333 c334 c335 c336 c337 c338 a' w' → Q .ret a' w') :
    Code.wp Tryz.prog (Code.loop pairBody) Q ⟨#[.pointer (some ⟨B, 0, none⟩), c1, .pointer (some ⟨w.heap.size, 0, none⟩), p3, c4, .pointer (some ⟨k, 0, none⟩), c6, c7, p8, p9, p10, p11, c12, c13, c14, c15, c16, c17, c18, c19, c20, c21, c22, c23, c24, c25, c26, c27, c28, c29, c30, c31, c32, c33, c34, c35, c36, c37, c38, c39, c40, c41, c42, c43, c44, c45, c46, c47, c48, c49, c50, c51, c52, c53, c54, c55, c56, c57, c58, c59, c60, c61, c62, c63, c64, c65, c66, c67, c68, c69, c70, c71, c72, c73, c74, c75, c76, c77, c78, c79, c80, c81, c82, c83, c84, c85, c86, c87, c88, c89, c90, c91, c92, c93, c94, c95, c96, c97, c98, c99, c100, c101, c102, c103, c104, c105, c106, c107, c108, c109, c110, c111, c112, c113, c114, c115, c116, c117, c118, c119, c120, c121, c122, c123, c124, c125, c126, c127, c128, c129, c130, c131, c132, c133, c134, c135, c136, c137, c138, c139, c140, c141, c142, c143, c144, c145, c146, c147, c148, c149, c150, c151, c152, c153, c154, c155, c156, c157, c158, c159, c160, c161, c162, c163, c164, c165, c166, c167, c168, c169, c170, c171, c172, c173, c174, c175, c176, c177, c178, c179, c180, c181, c182, p183, p184, p185, p186, p187, p188, p189, p190, p191, p192, p193, p194, p195, p196, p197, p198, p199, p200, p201, p202, p203, p204, p205, p206, p207, p208, p209, p210, p211, p212, p213, p214, p215, p216, p217, p218, p219, p220, p221, p222, p223, p224, p225, p226, p227, p228, p229, p230, p231, p232, p233, p234, p235, p236, p237, p238, p239, p240, p241, p242, p243, p244, p245, p246, p247, p248, p249, p250, p251, p252, p253, p254, p255, p256, p257, p258, p259, p260, p261, p262, p263, p264, p265, p266, p267, p268, p269, p270, p271, p272, p273, p274, p275, p276, p277, p278, p279, p280, p281, p282, p283, p284, p285, p286, p287, p288, p289, p290, p291, p292, p293, p294, p295, p296, p297, p298, p299, p300, p301, p302, p303, p304, p305, p306, p307, p308, p309, p310, p311, p312, p313, p314, p315, p316, p317, p318, p319, p320, p321, p322, p323, p324, p325, p326, p327, p328, p329, p330, p331, p332, c333, c334, c335, c336, c337, c338], []⟩ wr := by
  refine wp_loop_ghost_k (L3I w B k base s tn r c1 c4 c6 c7 c12 c13 c14 c15 c16 c17 c18 c19 c20 c21 c22 c23 c24 c25 c26 c27 c28 c29 c30 c31 c32 c33 c34 c35 c36 c37 c38 c39 c40 c41 c42 c43 c44 c45 c46 c47 c48 c49 c50 c51 c52 c53 c54 c55 c56 c57 c58 c59 c60 c61 c62 c63 c64 c65 c66 c67 c68 c69 c70 c71 c72 c73 c74 c75 c76 c77 c78 c79 c80 c81 c82 c83 c84 c85 c86 c87 c88 c89 c90 c91 c92 c93 c94 c95 c96 c97 c98 c99 c100 c101 c102 c103 c104 c105 c106 c107 c108 c109 c110 c111 c112 c113 c114 c115 c116 c117 c118 c119 c120 c121 c122 c123 c124 c125 c126 c127 c128 c129 c130 c131 c132 c133 c134 c135 c136 c137 c138 c139 c140 c141 c142 c143 c144 c145 c146 c147 c148 c149 c150 c151 c152 c153 c154 c155 c156 c157 c158 c159 c160 c161 c162 c163 c164 c165 c166 c167 c168 c169 c170 c171 c172 c173 c174 c175 c176 c177 c178 c179 c180 c181 c182 c333 c334 c335 c336 c337 c338) n0 ?_ ?_
  · unfold L3I
    (repeat apply Exists.intro)
    refine ⟨?_, rfl⟩
    exact hR
  · clear hR wr p3 p8 p9 p10 p11 p183 p184 p185 p186 p187 p188 p189 p190 p191 p192 p193 p194 p195 p196 p197 p198 p199 p200 p201 p202 p203 p204 p205 p206 p207 p208 p209 p210 p211 p212 p213 p214 p215 p216 p217 p218 p219 p220 p221 p222 p223 p224 p225 p226 p227 p228 p229 p230 p231 p232 p233 p234 p235 p236 p237 p238 p239 p240 p241 p242 p243 p244 p245 p246 p247 p248 p249 p250 p251 p252 p253 p254 p255 p256 p257 p258 p259 p260 p261 p262 p263 p264 p265 p266 p267 p268 p269 p270 p271 p272 p273 p274 p275 p276 p277 p278 p279 p280 p281 p282 p283 p284 p285 p286 p287 p288 p289 p290 p291 p292 p293 p294 p295 p296 p297 p298 p299 p300 p301 p302 p303 p304 p305 p306 p307 p308 p309 p310 p311 p312 p313 p314 p315 p316 p317 p318 p319 p320 p321 p322 p323 p324 p325 p326 p327 p328 p329 p330 p331 p332
    intro gk a wr hI J K hJ hK
    unfold L3I at hI
    obtain ⟨p3, hI⟩ := hI
    obtain ⟨p8, hI⟩ := hI
    obtain ⟨p9, hI⟩ := hI
    obtain ⟨p10, hI⟩ := hI
    obtain ⟨p11, hI⟩ := hI
    obtain ⟨p183, hI⟩ := hI
    obtain ⟨p184, hI⟩ := hI
    obtain ⟨p185, hI⟩ := hI
    obtain ⟨p186, hI⟩ := hI
    obtain ⟨p187, hI⟩ := hI
    obtain ⟨p188, hI⟩ := hI
    obtain ⟨p189, hI⟩ := hI
    obtain ⟨p190, hI⟩ := hI
    obtain ⟨p191, hI⟩ := hI
    obtain ⟨p192, hI⟩ := hI
    obtain ⟨p193, hI⟩ := hI
    obtain ⟨p194, hI⟩ := hI
    obtain ⟨p195, hI⟩ := hI
    obtain ⟨p196, hI⟩ := hI
    obtain ⟨p197, hI⟩ := hI
    obtain ⟨p198, hI⟩ := hI
    obtain ⟨p199, hI⟩ := hI
    obtain ⟨p200, hI⟩ := hI
    obtain ⟨p201, hI⟩ := hI
    obtain ⟨p202, hI⟩ := hI
    obtain ⟨p203, hI⟩ := hI
    obtain ⟨p204, hI⟩ := hI
    obtain ⟨p205, hI⟩ := hI
    obtain ⟨p206, hI⟩ := hI
    obtain ⟨p207, hI⟩ := hI
    obtain ⟨p208, hI⟩ := hI
    obtain ⟨p209, hI⟩ := hI
    obtain ⟨p210, hI⟩ := hI
    obtain ⟨p211, hI⟩ := hI
    obtain ⟨p212, hI⟩ := hI
    obtain ⟨p213, hI⟩ := hI
    obtain ⟨p214, hI⟩ := hI
    obtain ⟨p215, hI⟩ := hI
    obtain ⟨p216, hI⟩ := hI
    obtain ⟨p217, hI⟩ := hI
    obtain ⟨p218, hI⟩ := hI
    obtain ⟨p219, hI⟩ := hI
    obtain ⟨p220, hI⟩ := hI
    obtain ⟨p221, hI⟩ := hI
    obtain ⟨p222, hI⟩ := hI
    obtain ⟨p223, hI⟩ := hI
    obtain ⟨p224, hI⟩ := hI
    obtain ⟨p225, hI⟩ := hI
    obtain ⟨p226, hI⟩ := hI
    obtain ⟨p227, hI⟩ := hI
    obtain ⟨p228, hI⟩ := hI
    obtain ⟨p229, hI⟩ := hI
    obtain ⟨p230, hI⟩ := hI
    obtain ⟨p231, hI⟩ := hI
    obtain ⟨p232, hI⟩ := hI
    obtain ⟨p233, hI⟩ := hI
    obtain ⟨p234, hI⟩ := hI
    obtain ⟨p235, hI⟩ := hI
    obtain ⟨p236, hI⟩ := hI
    obtain ⟨p237, hI⟩ := hI
    obtain ⟨p238, hI⟩ := hI
    obtain ⟨p239, hI⟩ := hI
    obtain ⟨p240, hI⟩ := hI
    obtain ⟨p241, hI⟩ := hI
    obtain ⟨p242, hI⟩ := hI
    obtain ⟨p243, hI⟩ := hI
    obtain ⟨p244, hI⟩ := hI
    obtain ⟨p245, hI⟩ := hI
    obtain ⟨p246, hI⟩ := hI
    obtain ⟨p247, hI⟩ := hI
    obtain ⟨p248, hI⟩ := hI
    obtain ⟨p249, hI⟩ := hI
    obtain ⟨p250, hI⟩ := hI
    obtain ⟨p251, hI⟩ := hI
    obtain ⟨p252, hI⟩ := hI
    obtain ⟨p253, hI⟩ := hI
    obtain ⟨p254, hI⟩ := hI
    obtain ⟨p255, hI⟩ := hI
    obtain ⟨p256, hI⟩ := hI
    obtain ⟨p257, hI⟩ := hI
    obtain ⟨p258, hI⟩ := hI
    obtain ⟨p259, hI⟩ := hI
    obtain ⟨p260, hI⟩ := hI
    obtain ⟨p261, hI⟩ := hI
    obtain ⟨p262, hI⟩ := hI
    obtain ⟨p263, hI⟩ := hI
    obtain ⟨p264, hI⟩ := hI
    obtain ⟨p265, hI⟩ := hI
    obtain ⟨p266, hI⟩ := hI
    obtain ⟨p267, hI⟩ := hI
    obtain ⟨p268, hI⟩ := hI
    obtain ⟨p269, hI⟩ := hI
    obtain ⟨p270, hI⟩ := hI
    obtain ⟨p271, hI⟩ := hI
    obtain ⟨p272, hI⟩ := hI
    obtain ⟨p273, hI⟩ := hI
    obtain ⟨p274, hI⟩ := hI
    obtain ⟨p275, hI⟩ := hI
    obtain ⟨p276, hI⟩ := hI
    obtain ⟨p277, hI⟩ := hI
    obtain ⟨p278, hI⟩ := hI
    obtain ⟨p279, hI⟩ := hI
    obtain ⟨p280, hI⟩ := hI
    obtain ⟨p281, hI⟩ := hI
    obtain ⟨p282, hI⟩ := hI
    obtain ⟨p283, hI⟩ := hI
    obtain ⟨p284, hI⟩ := hI
    obtain ⟨p285, hI⟩ := hI
    obtain ⟨p286, hI⟩ := hI
    obtain ⟨p287, hI⟩ := hI
    obtain ⟨p288, hI⟩ := hI
    obtain ⟨p289, hI⟩ := hI
    obtain ⟨p290, hI⟩ := hI
    obtain ⟨p291, hI⟩ := hI
    obtain ⟨p292, hI⟩ := hI
    obtain ⟨p293, hI⟩ := hI
    obtain ⟨p294, hI⟩ := hI
    obtain ⟨p295, hI⟩ := hI
    obtain ⟨p296, hI⟩ := hI
    obtain ⟨p297, hI⟩ := hI
    obtain ⟨p298, hI⟩ := hI
    obtain ⟨p299, hI⟩ := hI
    obtain ⟨p300, hI⟩ := hI
    obtain ⟨p301, hI⟩ := hI
    obtain ⟨p302, hI⟩ := hI
    obtain ⟨p303, hI⟩ := hI
    obtain ⟨p304, hI⟩ := hI
    obtain ⟨p305, hI⟩ := hI
    obtain ⟨p306, hI⟩ := hI
    obtain ⟨p307, hI⟩ := hI
    obtain ⟨p308, hI⟩ := hI
    obtain ⟨p309, hI⟩ := hI
    obtain ⟨p310, hI⟩ := hI
    obtain ⟨p311, hI⟩ := hI
    obtain ⟨p312, hI⟩ := hI
    obtain ⟨p313, hI⟩ := hI
    obtain ⟨p314, hI⟩ := hI
    obtain ⟨p315, hI⟩ := hI
    obtain ⟨p316, hI⟩ := hI
    obtain ⟨p317, hI⟩ := hI
    obtain ⟨p318, hI⟩ := hI
    obtain ⟨p319, hI⟩ := hI
    obtain ⟨p320, hI⟩ := hI
    obtain ⟨p321, hI⟩ := hI
    obtain ⟨p322, hI⟩ := hI
    obtain ⟨p323, hI⟩ := hI
    obtain ⟨p324, hI⟩ := hI
    obtain ⟨p325, hI⟩ := hI
    obtain ⟨p326, hI⟩ := hI
    obtain ⟨p327, hI⟩ := hI
    obtain ⟨p328, hI⟩ := hI
    obtain ⟨p329, hI⟩ := hI
    obtain ⟨p330, hI⟩ := hI
    obtain ⟨p331, hI⟩ := hI
    obtain ⟨p332, hI⟩ := hI
    obtain ⟨hrel, ha⟩ := hI
    subst ha
    obtain ⟨j, n, keep, b, hj, hk, hbj, hkl, he, hs10, O, hval, P⟩ := hrel
    subst he
    by_cases hlt : j < s.size
    · by_cases h92 : s[j]'hlt = 92
      · by_cases h1 : j + 1 < s.size
        · cases HESC : escapable.data.toList.contains (s[j + 1]'h1) with
          | true => exact l3_esc w wr B k base gk j n keep s tn r b hs hkb hj hk hbj hkl hs10 c1 c4 c6 c7 c12 c13 c14 c15 c16 c17 c18 c19 c20 c21 c22 c23 c24 c25 c26 c27 c28 c29 c30 c31 c32 c33 c34 c35 c36 c37 c38 c39 c40 c41 c42 c43 c44 c45 c46 c47 c48 c49 c50 c51 c52 c53 c54 c55 c56 c57 c58 c59 c60 c61 c62 c63 c64 c65 c66 c67 c68 c69 c70 c71 c72 c73 c74 c75 c76 c77 c78 c79 c80 c81 c82 c83 c84 c85 c86 c87 c88 c89 c90 c91 c92 c93 c94 c95 c96 c97 c98 c99 c100 c101 c102 c103 c104 c105 c106 c107 c108 c109 c110 c111 c112 c113 c114 c115 c116 c117 c118 c119 c120 c121 c122 c123 c124 c125 c126 c127 c128 c129 c130 c131 c132 c133 c134 c135 c136 c137 c138 c139 c140 c141 c142 c143 c144 c145 c146 c147 c148 c149 c150 c151 c152 c153 c154 c155 c156 c157 c158 c159 c160 c161 c162 c163 c164 c165 c166 c167 c168 c169 c170 c171 c172 c173 c174 c175 c176 c177 c178 c179 c180 c181 c182 c333 c334 c335 c336 c337 c338 p3 p8 (.int .i64 (keep : Int)) p10 p11 p183 p184 p185 p186 p187 p188 p189 p190 p191 p192 p193 p194 p195 p196 p197 p198 p199 p200 p201 p202 p203 p204 p205 p206 p207 p208 p209 p210 p211 p212 p213 p214 p215 p216 p217 p218 p219 p220 p221 p222 p223 p224 p225 p226 p227 p228 p229 p230 p231 p232 p233 p234 p235 p236 p237 p238 p239 p240 p241 p242 p243 p244 p245 p246 p247 p248 p249 p250 p251 p252 p253 p254 p255 p256 p257 p258 p259 p260 p261 p262 p263 p264 p265 p266 p267 p268 p269 p270 p271 p272 p273 p274 p275 p276 p277 p278 p279 p280 p281 p282 p283 p284 p285 p286 p287 p288 p289 p290 p291 p292 p293 p294 p295 p296 p297 p298 p299 p300 p301 p302 p303 p304 p305 p306 p307 p308 p309 p310 p311 p312 p313 p314 p315 p316 p317 p318 p319 p320 p321 p322 p323 p324 p325 p326 p327 p328 p329 p330 p331 p332 O hval P hlt h92 h1 HESC J K Q hJ hK hX hF
          | false =>
            by_cases h2 : j + 2 < s.size
            · by_cases hbad : digit ((s[j + 1]'h1).toNat : Int) < 0 ∨ digit ((s[j + 2]'h2).toNat : Int) < 0
              · exact l3_dbad w wr B k base gk j n keep s tn r b hs hkb hj hk hbj hkl hs10 c1 c4 c6 c7 c12 c13 c14 c15 c16 c17 c18 c19 c20 c21 c22 c23 c24 c25 c26 c27 c28 c29 c30 c31 c32 c33 c34 c35 c36 c37 c38 c39 c40 c41 c42 c43 c44 c45 c46 c47 c48 c49 c50 c51 c52 c53 c54 c55 c56 c57 c58 c59 c60 c61 c62 c63 c64 c65 c66 c67 c68 c69 c70 c71 c72 c73 c74 c75 c76 c77 c78 c79 c80 c81 c82 c83 c84 c85 c86 c87 c88 c89 c90 c91 c92 c93 c94 c95 c96 c97 c98 c99 c100 c101 c102 c103 c104 c105 c106 c107 c108 c109 c110 c111 c112 c113 c114 c115 c116 c117 c118 c119 c120 c121 c122 c123 c124 c125 c126 c127 c128 c129 c130 c131 c132 c133 c134 c135 c136 c137 c138 c139 c140 c141 c142 c143 c144 c145 c146 c147 c148 c149 c150 c151 c152 c153 c154 c155 c156 c157 c158 c159 c160 c161 c162 c163 c164 c165 c166 c167 c168 c169 c170 c171 c172 c173 c174 c175 c176 c177 c178 c179 c180 c181 c182 c333 c334 c335 c336 c337 c338 p3 p8 (.int .i64 (keep : Int)) p10 p11 p183 p184 p185 p186 p187 p188 p189 p190 p191 p192 p193 p194 p195 p196 p197 p198 p199 p200 p201 p202 p203 p204 p205 p206 p207 p208 p209 p210 p211 p212 p213 p214 p215 p216 p217 p218 p219 p220 p221 p222 p223 p224 p225 p226 p227 p228 p229 p230 p231 p232 p233 p234 p235 p236 p237 p238 p239 p240 p241 p242 p243 p244 p245 p246 p247 p248 p249 p250 p251 p252 p253 p254 p255 p256 p257 p258 p259 p260 p261 p262 p263 p264 p265 p266 p267 p268 p269 p270 p271 p272 p273 p274 p275 p276 p277 p278 p279 p280 p281 p282 p283 p284 p285 p286 p287 p288 p289 p290 p291 p292 p293 p294 p295 p296 p297 p298 p299 p300 p301 p302 p303 p304 p305 p306 p307 p308 p309 p310 p311 p312 p313 p314 p315 p316 p317 p318 p319 p320 p321 p322 p323 p324 p325 p326 p327 p328 p329 p330 p331 p332 O hval P hlt h92 h1 HESC h2 hbad J K Q hJ hK hX hF
              · exact l3_dok w wr B k base gk j n keep s tn r b hs hkb hj hk hbj hkl hs10 c1 c4 c6 c7 c12 c13 c14 c15 c16 c17 c18 c19 c20 c21 c22 c23 c24 c25 c26 c27 c28 c29 c30 c31 c32 c33 c34 c35 c36 c37 c38 c39 c40 c41 c42 c43 c44 c45 c46 c47 c48 c49 c50 c51 c52 c53 c54 c55 c56 c57 c58 c59 c60 c61 c62 c63 c64 c65 c66 c67 c68 c69 c70 c71 c72 c73 c74 c75 c76 c77 c78 c79 c80 c81 c82 c83 c84 c85 c86 c87 c88 c89 c90 c91 c92 c93 c94 c95 c96 c97 c98 c99 c100 c101 c102 c103 c104 c105 c106 c107 c108 c109 c110 c111 c112 c113 c114 c115 c116 c117 c118 c119 c120 c121 c122 c123 c124 c125 c126 c127 c128 c129 c130 c131 c132 c133 c134 c135 c136 c137 c138 c139 c140 c141 c142 c143 c144 c145 c146 c147 c148 c149 c150 c151 c152 c153 c154 c155 c156 c157 c158 c159 c160 c161 c162 c163 c164 c165 c166 c167 c168 c169 c170 c171 c172 c173 c174 c175 c176 c177 c178 c179 c180 c181 c182 c333 c334 c335 c336 c337 c338 p3 p8 (.int .i64 (keep : Int)) p10 p11 p183 p184 p185 p186 p187 p188 p189 p190 p191 p192 p193 p194 p195 p196 p197 p198 p199 p200 p201 p202 p203 p204 p205 p206 p207 p208 p209 p210 p211 p212 p213 p214 p215 p216 p217 p218 p219 p220 p221 p222 p223 p224 p225 p226 p227 p228 p229 p230 p231 p232 p233 p234 p235 p236 p237 p238 p239 p240 p241 p242 p243 p244 p245 p246 p247 p248 p249 p250 p251 p252 p253 p254 p255 p256 p257 p258 p259 p260 p261 p262 p263 p264 p265 p266 p267 p268 p269 p270 p271 p272 p273 p274 p275 p276 p277 p278 p279 p280 p281 p282 p283 p284 p285 p286 p287 p288 p289 p290 p291 p292 p293 p294 p295 p296 p297 p298 p299 p300 p301 p302 p303 p304 p305 p306 p307 p308 p309 p310 p311 p312 p313 p314 p315 p316 p317 p318 p319 p320 p321 p322 p323 p324 p325 p326 p327 p328 p329 p330 p331 p332 O hval P hlt h92 h1 HESC h2 hbad J K Q hJ hK hX hF
            · exact l3_dno w wr B k base gk j n keep s tn r b hs hkb hj hk hbj hkl hs10 c1 c4 c6 c7 c12 c13 c14 c15 c16 c17 c18 c19 c20 c21 c22 c23 c24 c25 c26 c27 c28 c29 c30 c31 c32 c33 c34 c35 c36 c37 c38 c39 c40 c41 c42 c43 c44 c45 c46 c47 c48 c49 c50 c51 c52 c53 c54 c55 c56 c57 c58 c59 c60 c61 c62 c63 c64 c65 c66 c67 c68 c69 c70 c71 c72 c73 c74 c75 c76 c77 c78 c79 c80 c81 c82 c83 c84 c85 c86 c87 c88 c89 c90 c91 c92 c93 c94 c95 c96 c97 c98 c99 c100 c101 c102 c103 c104 c105 c106 c107 c108 c109 c110 c111 c112 c113 c114 c115 c116 c117 c118 c119 c120 c121 c122 c123 c124 c125 c126 c127 c128 c129 c130 c131 c132 c133 c134 c135 c136 c137 c138 c139 c140 c141 c142 c143 c144 c145 c146 c147 c148 c149 c150 c151 c152 c153 c154 c155 c156 c157 c158 c159 c160 c161 c162 c163 c164 c165 c166 c167 c168 c169 c170 c171 c172 c173 c174 c175 c176 c177 c178 c179 c180 c181 c182 c333 c334 c335 c336 c337 c338 p3 p8 (.int .i64 (keep : Int)) p10 p11 p183 p184 p185 p186 p187 p188 p189 p190 p191 p192 p193 p194 p195 p196 p197 p198 p199 p200 p201 p202 p203 p204 p205 p206 p207 p208 p209 p210 p211 p212 p213 p214 p215 p216 p217 p218 p219 p220 p221 p222 p223 p224 p225 p226 p227 p228 p229 p230 p231 p232 p233 p234 p235 p236 p237 p238 p239 p240 p241 p242 p243 p244 p245 p246 p247 p248 p249 p250 p251 p252 p253 p254 p255 p256 p257 p258 p259 p260 p261 p262 p263 p264 p265 p266 p267 p268 p269 p270 p271 p272 p273 p274 p275 p276 p277 p278 p279 p280 p281 p282 p283 p284 p285 p286 p287 p288 p289 p290 p291 p292 p293 p294 p295 p296 p297 p298 p299 p300 p301 p302 p303 p304 p305 p306 p307 p308 p309 p310 p311 p312 p313 p314 p315 p316 p317 p318 p319 p320 p321 p322 p323 p324 p325 p326 p327 p328 p329 p330 p331 p332 O hval P hlt h92 h1 HESC h2 J K Q hJ hK hX hF
        · exact l3_short w wr B k base gk j n keep s tn r b hs hkb hj hk hbj hkl hs10 c1 c4 c6 c7 c12 c13 c14 c15 c16 c17 c18 c19 c20 c21 c22 c23 c24 c25 c26 c27 c28 c29 c30 c31 c32 c33 c34 c35 c36 c37 c38 c39 c40 c41 c42 c43 c44 c45 c46 c47 c48 c49 c50 c51 c52 c53 c54 c55 c56 c57 c58 c59 c60 c61 c62 c63 c64 c65 c66 c67 c68 c69 c70 c71 c72 c73 c74 c75 c76 c77 c78 c79 c80 c81 c82 c83 c84 c85 c86 c87 c88 c89 c90 c91 c92 c93 c94 c95 c96 c97 c98 c99 c100 c101 c102 c103 c104 c105 c106 c107 c108 c109 c110 c111 c112 c113 c114 c115 c116 c117 c118 c119 c120 c121 c122 c123 c124 c125 c126 c127 c128 c129 c130 c131 c132 c133 c134 c135 c136 c137 c138 c139 c140 c141 c142 c143 c144 c145 c146 c147 c148 c149 c150 c151 c152 c153 c154 c155 c156 c157 c158 c159 c160 c161 c162 c163 c164 c165 c166 c167 c168 c169 c170 c171 c172 c173 c174 c175 c176 c177 c178 c179 c180 c181 c182 c333 c334 c335 c336 c337 c338 p3 p8 (.int .i64 (keep : Int)) p10 p11 p183 p184 p185 p186 p187 p188 p189 p190 p191 p192 p193 p194 p195 p196 p197 p198 p199 p200 p201 p202 p203 p204 p205 p206 p207 p208 p209 p210 p211 p212 p213 p214 p215 p216 p217 p218 p219 p220 p221 p222 p223 p224 p225 p226 p227 p228 p229 p230 p231 p232 p233 p234 p235 p236 p237 p238 p239 p240 p241 p242 p243 p244 p245 p246 p247 p248 p249 p250 p251 p252 p253 p254 p255 p256 p257 p258 p259 p260 p261 p262 p263 p264 p265 p266 p267 p268 p269 p270 p271 p272 p273 p274 p275 p276 p277 p278 p279 p280 p281 p282 p283 p284 p285 p286 p287 p288 p289 p290 p291 p292 p293 p294 p295 p296 p297 p298 p299 p300 p301 p302 p303 p304 p305 p306 p307 p308 p309 p310 p311 p312 p313 p314 p315 p316 p317 p318 p319 p320 p321 p322 p323 p324 p325 p326 p327 p328 p329 p330 p331 p332 O hval P hlt h92 h1 J K Q hJ hK hX hF
      · exact l3_plain w wr B k base gk j n keep s tn r b hs hkb hj hk hbj hkl hs10 c1 c4 c6 c7 c12 c13 c14 c15 c16 c17 c18 c19 c20 c21 c22 c23 c24 c25 c26 c27 c28 c29 c30 c31 c32 c33 c34 c35 c36 c37 c38 c39 c40 c41 c42 c43 c44 c45 c46 c47 c48 c49 c50 c51 c52 c53 c54 c55 c56 c57 c58 c59 c60 c61 c62 c63 c64 c65 c66 c67 c68 c69 c70 c71 c72 c73 c74 c75 c76 c77 c78 c79 c80 c81 c82 c83 c84 c85 c86 c87 c88 c89 c90 c91 c92 c93 c94 c95 c96 c97 c98 c99 c100 c101 c102 c103 c104 c105 c106 c107 c108 c109 c110 c111 c112 c113 c114 c115 c116 c117 c118 c119 c120 c121 c122 c123 c124 c125 c126 c127 c128 c129 c130 c131 c132 c133 c134 c135 c136 c137 c138 c139 c140 c141 c142 c143 c144 c145 c146 c147 c148 c149 c150 c151 c152 c153 c154 c155 c156 c157 c158 c159 c160 c161 c162 c163 c164 c165 c166 c167 c168 c169 c170 c171 c172 c173 c174 c175 c176 c177 c178 c179 c180 c181 c182 c333 c334 c335 c336 c337 c338 p3 p8 (.int .i64 (keep : Int)) p10 p11 p183 p184 p185 p186 p187 p188 p189 p190 p191 p192 p193 p194 p195 p196 p197 p198 p199 p200 p201 p202 p203 p204 p205 p206 p207 p208 p209 p210 p211 p212 p213 p214 p215 p216 p217 p218 p219 p220 p221 p222 p223 p224 p225 p226 p227 p228 p229 p230 p231 p232 p233 p234 p235 p236 p237 p238 p239 p240 p241 p242 p243 p244 p245 p246 p247 p248 p249 p250 p251 p252 p253 p254 p255 p256 p257 p258 p259 p260 p261 p262 p263 p264 p265 p266 p267 p268 p269 p270 p271 p272 p273 p274 p275 p276 p277 p278 p279 p280 p281 p282 p283 p284 p285 p286 p287 p288 p289 p290 p291 p292 p293 p294 p295 p296 p297 p298 p299 p300 p301 p302 p303 p304 p305 p306 p307 p308 p309 p310 p311 p312 p313 p314 p315 p316 p317 p318 p319 p320 p321 p322 p323 p324 p325 p326 p327 p328 p329 p330 p331 p332 O hval P hlt h92 J K Q hJ hK hX hF
    · exact l3_end w wr B k base gk j n keep s tn r b hs hkb hj hk hbj hkl hs10 c1 c4 c6 c7 c12 c13 c14 c15 c16 c17 c18 c19 c20 c21 c22 c23 c24 c25 c26 c27 c28 c29 c30 c31 c32 c33 c34 c35 c36 c37 c38 c39 c40 c41 c42 c43 c44 c45 c46 c47 c48 c49 c50 c51 c52 c53 c54 c55 c56 c57 c58 c59 c60 c61 c62 c63 c64 c65 c66 c67 c68 c69 c70 c71 c72 c73 c74 c75 c76 c77 c78 c79 c80 c81 c82 c83 c84 c85 c86 c87 c88 c89 c90 c91 c92 c93 c94 c95 c96 c97 c98 c99 c100 c101 c102 c103 c104 c105 c106 c107 c108 c109 c110 c111 c112 c113 c114 c115 c116 c117 c118 c119 c120 c121 c122 c123 c124 c125 c126 c127 c128 c129 c130 c131 c132 c133 c134 c135 c136 c137 c138 c139 c140 c141 c142 c143 c144 c145 c146 c147 c148 c149 c150 c151 c152 c153 c154 c155 c156 c157 c158 c159 c160 c161 c162 c163 c164 c165 c166 c167 c168 c169 c170 c171 c172 c173 c174 c175 c176 c177 c178 c179 c180 c181 c182 c333 c334 c335 c336 c337 c338 p3 p8 (.int .i64 (keep : Int)) p10 p11 p183 p184 p185 p186 p187 p188 p189 p190 p191 p192 p193 p194 p195 p196 p197 p198 p199 p200 p201 p202 p203 p204 p205 p206 p207 p208 p209 p210 p211 p212 p213 p214 p215 p216 p217 p218 p219 p220 p221 p222 p223 p224 p225 p226 p227 p228 p229 p230 p231 p232 p233 p234 p235 p236 p237 p238 p239 p240 p241 p242 p243 p244 p245 p246 p247 p248 p249 p250 p251 p252 p253 p254 p255 p256 p257 p258 p259 p260 p261 p262 p263 p264 p265 p266 p267 p268 p269 p270 p271 p272 p273 p274 p275 p276 p277 p278 p279 p280 p281 p282 p283 p284 p285 p286 p287 p288 p289 p290 p291 p292 p293 p294 p295 p296 p297 p298 p299 p300 p301 p302 p303 p304 p305 p306 p307 p308 p309 p310 p311 p312 p313 p314 p315 p316 p317 p318 p319 p320 p321 p322 p323 p324 p325 p326 p327 p328 p329 p330 p331 p332 O hval P hlt J K Q hJ hK hX hF
set_option maxHeartbeats 8000000 in
theorem rPair_calls (w : World) (B : Nat) (s : ByteArray) (i : Nat) (hr : Dk w B s i) (hi : i ≤ s.size) (hs : s.size < 4294967281) :
    Calls Tryz.prog 127 #[.pointer (some ⟨B, 0, none⟩)] w (PairD B s (rPairR (rest s i)) w) := by
  have hR := Lib.hid hr
  have hBlt := hr.lt
  have hs' : s.size ≤ 4294967296 := by omega
  clear hr
  obtain ⟨r, hr⟩ : ∃ r, rPairR (rest s i) = r := ⟨_, rfl⟩
  rw [hr]
  have Hr := Lib.hid hr
  clear hr
  go_enter Tryz.func127, Tryz.ntmps127
  go_wp2_with fail
  have R0 : Hid (Dk _ B s i) := dk_alloc hR.out (Obj.cells #[Value.string { data := #[] }, Value.string { data := #[] }] 85)
  have G0 : Hid (Gr B w _) := gr_alloc B w (Obj.cells #[Value.string { data := #[] }, Value.string { data := #[] }] 85)
  have C0 : Hid (Two _ w.heap.size (.string ⟨#[]⟩) (.string ⟨#[]⟩)) := two_new w (.string ⟨#[]⟩) (.string ⟨#[]⟩)
  generalize w.alloc (Obj.cells #[Value.string { data := #[] }, Value.string { data := #[] }] 85) = W0 at R0 G0 C0 ⊢
  refine (rBlanks_calls W0 B s i R0.out hi hs').mono ?_
  rintro e w1 ⟨rfl, m, hm, hl1, hR1, hG1⟩
  have R1 := Lib.hid hR1
  have G1 := Lib.hid (G0.out.trans hG1)
  have C1 := Lib.hid (C0.out.gr (B := B) (by omega) hG1)
  have L1 := Lib.hid hl1
  have b1 := hR1.c1
  clear hR1 hG1 hl1 R0 G0 C0
  go_upto_block 0 with fail
  clear b1
  go_cut [] (fun wx => ∃ j : Nat, m ≤ j ∧ j ≤ s.size ∧ Hid ((rest s m).takeWhile inTypeB = (s.extract m j).data.toList) ∧ Hid ((rest s m).dropWhile inTypeB = rest s j) ∧ Hid (Dk wx B s j) ∧ Hid (Gr B w1 wx))
  case first =>
    go_wp2_with fail
    go_loopg [] (s.size - m) (fun k wr => ∃ j : Nat, m ≤ j ∧ j ≤ s.size ∧ s.size - j ≤ k ∧ Hid ((rest s m).takeWhile inTypeB = (s.extract m j).data.toList ++ (rest s j).takeWhile inTypeB) ∧ Hid ((rest s m).dropWhile inTypeB = (rest s j).dropWhile inTypeB) ∧ Hid (Dk wr B s j) ∧ Hid (Gr B w1 wr))
    case atStart => exact ⟨m, Nat.le_refl _, hm, Nat.le_refl _, by show _ = _; simp, rfl, R1, Gr.refl _ _⟩
    case round =>
      obtain ⟨j, hij, hj, hk, ht, hd, hRj, hG⟩ := hrel
      have c0 := hRj.out.c0
      have c1 := hRj.out.c1
      have f1 := hRj.out.f1
      by_cases hlt : j < s.size
      · have hdl : decide ((j : Int) < (s.size : Int)) = true := by simpa using hlt
        have Hrl := Lib.hid (rest_lt hlt)
        have Hx := Lib.hid (extract_snoc hij hlt)
        have hty := inType_split (s[j]'hlt)
        have Hgo : Hid (inTypeB (s[j]'hlt) = true → ((rest s m).takeWhile inTypeB = (s.extract m (j + 1)).data.toList ++ (rest s (j + 1)).takeWhile inTypeB) ∧ (rest s m).dropWhile inTypeB = (rest s (j + 1)).dropWhile inTypeB) := fun h => by
          refine ⟨?_, ?_⟩
          · rw [ht.out, Hrl.out, Hx.out, List.takeWhile_cons_of_pos h]; simp
          · rw [hd.out, Hrl.out, List.dropWhile_cons_of_pos h]
        have Hno : Hid (inTypeB (s[j]'hlt) = false → ((rest s m).takeWhile inTypeB = (s.extract m j).data.toList) ∧ (rest s m).dropWhile inTypeB = rest s j) := fun h => by
          have h' : ¬ inTypeB (s[j]'hlt) = true := by rw [h]; exact Bool.noConfusion
          refine ⟨?_, ?_⟩
          · rw [ht.out, Hrl.out, List.takeWhile_cons_of_neg h']; simp
          · rw [hd.out, Hrl.out, List.dropWhile_cons_of_neg h']
        clear ht hd Hrl Hx
        rcases hty with ⟨ht, q1⟩ | ⟨ht, q1, q2⟩ | ⟨ht, q1, q2, q3⟩ | ⟨ht, q1, q2, q3, q4⟩ | ⟨ht, q1, q2, q3, q4⟩
        all_goals
          have Ht := Lib.hid ht
          clear ht
        · go_wp2_with fail
          go_quiet ((first | (go_at_call 84; exact rletter_quiet q1 _ _) | (go_at_call 85; exact rdig_quiet q2 _ _)))
          go_wp2_with fail
          go_roundg (s.size - (j + 1))
          case measure => omega
          case rel => exact ⟨j + 1, by omega, by omega, Nat.le_refl _, (Hgo.out Ht.out).1, (Hgo.out Ht.out).2, (hRj.out.drewN _).setCell (j + 1), (hG.out.drewN _).setCell _ _⟩
        · go_wp2_with fail
          go_quiet ((first | (go_at_call 84; exact rletter_quiet q1 _ _) | (go_at_call 85; exact rdig_quiet q2 _ _)))
          go_wp2_with fail
          go_roundg (s.size - (j + 1))
          case measure => omega
          case rel => exact ⟨j + 1, by omega, by omega, Nat.le_refl _, (Hgo.out Ht.out).1, (Hgo.out Ht.out).2, (hRj.out.drewN _).setCell (j + 1), (hG.out.drewN _).setCell _ _⟩
        · go_wp2_with fail
          go_quiet ((first | (go_at_call 84; exact rletter_quiet q1 _ _) | (go_at_call 85; exact rdig_quiet q2 _ _)))
          go_wp2_with fail
          go_roundg (s.size - (j + 1))
          case measure => omega
          case rel => exact ⟨j + 1, by omega, by omega, Nat.le_refl _, (Hgo.out Ht.out).1, (Hgo.out Ht.out).2, (hRj.out.drewN _).setCell (j + 1), (hG.out.drewN _).setCell _ _⟩
        · go_wp2_with fail
          go_quiet ((first | (go_at_call 84; exact rletter_quiet q1 _ _) | (go_at_call 85; exact rdig_quiet q2 _ _)))
          go_wp2_with fail
          go_roundg (s.size - (j + 1))
          case measure => omega
          case rel => exact ⟨j + 1, by omega, by omega, Nat.le_refl _, (Hgo.out Ht.out).1, (Hgo.out Ht.out).2, (hRj.out.drewN _).setCell (j + 1), (hG.out.drewN _).setCell _ _⟩
        · go_wp2_with fail
          go_quiet ((first | (go_at_call 84; exact rletter_quiet q1 _ _) | (go_at_call 85; exact rdig_quiet q2 _ _)))
          go_wp2_with fail
          go_meet
          exact ⟨j, hij, hj, (Hno.out Ht.out).1, (Hno.out Ht.out).2, hRj.out.drewN _, hG.out.drewN _⟩
      · have hdl : decide ((j : Int) < (s.size : Int)) = false := by simpa using hlt
        have Hno : Hid (((rest s m).takeWhile inTypeB = (s.extract m j).data.toList) ∧ (rest s m).dropWhile inTypeB = rest s j) := by
          refine ⟨?_, ?_⟩
          · rw [ht.out, rest_ge (by omega)]; simp
          · rw [hd.out, rest_ge (by omega)]; rfl
        clear ht hd
        go_wp2_with fail
        go_quiet (fail)
        go_wp2_with fail
        go_meet
        exact ⟨j, hij, hj, Hno.out.1, Hno.out.2, hRj.out.drewN _, hG.out.drewN _⟩
  case rest =>
    obtain ⟨j, hij, hj, ht, hd, hRj, hG⟩ := hcut
    have c0 := hRj.out.c0
    have c1 := hRj.out.c1
    go_wp2_with fail
    have ea := World.new_ne wc _ c0
    have eb := World.new_ne wc _ c1
    go_region_held3 (fun V : World => V.cell? ⟨B, 0, none⟩ = some (.string s) ∧ V.cell? ⟨B, 1, none⟩ = some (.int .i64 (j : Int))) (go_keep) (fail)
    clear ea eb c0 c1
    have hwc : w.heap.size < wc.heap.size := Nat.lt_of_lt_of_le C1.out.lt hG.out.size
    have P2 : Hid (Pst w (wc.alloc (Obj.cells #[Value.string (s.extract m j), Value.string { data := #[] }] 85)).drew B wc.heap.size s j (.string (s.extract m j)) (.string ⟨#[]⟩)) :=
      (Pst.mk hBlt hwc (dk_alloc hRj.out _) (two_alloc (C1.out.gr (B := B) (by omega) hG.out) _) (two_new wc _ _) ((G1.out.trans hG.out).trans (gr_alloc B wc _))).drewN 1
    go_wp2_with fail
    generalize (wc.alloc (Obj.cells #[Value.string (s.extract m j), Value.string { data := #[] }] 85)).drew = w2 at P2 ⊢
    obtain ⟨k, hk⟩ : ∃ k, wc.heap.size = k := ⟨_, rfl⟩
    rw [hk] at P2 hwc ⊢
    clear hk hRj hG R1 G1 C1
    have Hr1 : Hid (r = if isType (s.extract m j).data.toList then (if isAt 61 (skip (rest s j)) then (rValueR (skip ((skip (rest s j)).drop 1))).map fun x => (((s.extract m j).data.toList, x.1), x.2) else none) else none) := by
      show r = _
      rw [← Hr.out]; unfold rPairR typR
      rw [← L1.out, ht.out, hd.out]
      cases isType (s.extract m j).data.toList <;> rfl
    have hxs : (s.extract m j).size < 4294967281 := by simp [ByteArray.size_extract]; omega
    have hty := fun W => rTypeOf_calls (s.extract m j) W hxs
    clear hxs Hr L1 ht hd hm hij hR hi
    obtain ⟨tn, htn⟩ : ∃ tn, s.extract m j = tn := ⟨_, rfl⟩
    rw [htn] at P2 Hr1 hty
    clear htn
    refine (rBlanks_calls w2 B s j P2.out.dk hj hs').mono ?_
    rintro e w3 ⟨rfl, j3, hj3, hl3, hR3, hG3⟩
    have P3 := Lib.hid (P2.out.moved hR3 hG3)
    have Hr3 : Hid (r = if isType tn.data.toList then (if isAt 61 (rest s j3) then (rValueR (skip ((rest s j3).drop 1))).map fun x => ((tn.data.toList, x.1), x.2) else none) else none) := by
      show r = _
      rw [Hr1.out, hl3]
    clear hR3 hG3 hl3 P2 Hr1 hj
    have x0 := P3.out.xb.c0
    have HT := Lib.hid hty
    clear hty
    generalize isType tn.data.toList = bT at *
    cases bT with
    | false =>
      have Hn : Hid (r = none) := by show r = _; rw [Hr3.out]; rfl
      go_wp2_with fail
      refine (HT.out w3).mono ?_
      rintro e w4 ⟨rfl, rfl⟩
      clear x0
      have a0 := P3.out.xb.c0
      have a1 := P3.out.xb.c1
      have d0 := P3.out.cb.c0
      have d1 := P3.out.cb.c1
      have d2 := P3.out.cb.f0
      have d3 := P3.out.cb.f1
      have PF := P3.out.fail
      have GF := Lib.hid PF.2
      have f0 := PF.1.c0
      have f1 := PF.1.c1
      clear PF
      have F0 := Lib.hid f0
      have F1 := Lib.hid f1
      clear f0 f1
      go_wp2_with fail
      have f0 := F0.out
      have f1 := F1.out
      generalize (w4.setCell ⟨w.heap.size, 0, none⟩ (.string tn)).setCell ⟨w.heap.size, 1, none⟩ (.string ⟨#[]⟩) = w99 at *
      refine bodyPost_ret (v := .tuple #[.agg #[(.string tn), (.string ⟨#[]⟩)], .bool false]) (by simp [results, Tryz.results127, go_sem, f0, f1]) rfl ?_
      exact pairD_none Hn.out GF.out
    | true =>
      go_wp2_with fail
      refine (HT.out w3).mono ?_
      rintro e w4 ⟨rfl, rfl⟩
      clear x0 HT
      go_wp2_with fail
      refine (rIs_calls w4 B s j3 61 P3.out.dk hj3).mono ?_
      rintro e w5 ⟨rfl, n5, rfl⟩
      have P5 := Lib.hid (P3.out.drewN n5)
      obtain ⟨w5, hw5⟩ : ∃ w5, w5 = w4.drewN n5 := ⟨_, rfl⟩
      rw [← hw5] at P5 ⊢
      clear hw5 P3
      by_cases h61 : isAt 61 (rest s j3) = true
      · have hlt := isAt_lt h61
        have Hr5 : Hid (r = (rValueR (skip (rest s (j3 + 1)))).map fun x => ((tn.data.toList, x.1), x.2)) := by
          show r = _
          simp only [Hr3.out, if_true, if_pos h61]
          rw [show (rest s j3).drop 1 = rest s (j3 + 1) by simp [rest]]
        clear Hr3
        have b1 := P5.out.dk.c1
        have b2 := P5.out.dk.f1
        go_wp2_with fail
        have P6 := Lib.hid (P5.out.step (j3 + 1))
        rw [show ((j3 + 1 : Nat) : Int) = (j3 : Int) + 1 by omega] at P6
        generalize w5.setCell ⟨B, 1, none⟩ (.int .i64 ((j3 : Int) + 1)) = w6 at P6 ⊢
        clear b1 b2 P5 h61
        refine (rBlanks_calls w6 B s (j3 + 1) P6.out.dk (by omega) hs').mono ?_
        rintro e w7 ⟨rfl, j7, hj7, hl7, hR7, hG7⟩
        have P7 := Lib.hid (P6.out.moved hR7 hG7)
        have Hr7 : Hid (r = (rValueR (rest s j7)).map fun x => ((tn.data.toList, x.1), x.2)) := by
          show r = _
          rw [Hr5.out, hl7]
        clear hR7 hG7 hl7 P6 Hr5 hlt hj3
        go_wp2_with fail
        refine (rIs_calls w7 B s j7 35 P7.out.dk hj7).mono ?_
        rintro e w8 ⟨rfl, n8, rfl⟩
        have P8 := Lib.hid (P7.out.drewN n8)
        obtain ⟨w8, hw8⟩ : ∃ w8, w8 = w7.drewN n8 := ⟨_, rfl⟩
        rw [← hw8] at P8 ⊢
        clear hw8 P7
        by_cases h35 : isAt 35 (rest s j7) = true
        · have hlt := isAt_lt h35
          have Hr9 : Hid (r = ((hexR (rest s (j7 + 1))).map fun x => (x.1, skip x.2)).map fun x => ((tn.data.toList, x.1), x.2)) := by
            show r = _
            rw [Hr7.out]; unfold rValueR
            rw [if_pos h35]
            rw [show (rest s j7).drop 1 = rest s (j7 + 1) by simp [rest]]
          have b1 := P8.out.dk.c1
          have b2 := P8.out.dk.f1
          have P9 := Lib.hid (P8.out.step (j7 + 1))
          have P9c := P9.out.dk.c1
          rw [show ((j7 + 1 : Nat) : Int) = (j7 : Int) + 1 by omega] at P9 P9c
          have hm9 : j7 + 1 ≤ s.size := hlt
          have E : Hid ((j7 : Int) + 1 = ((j7 + 1 : Nat) : Int)) := by show _ = _; omega
          clear P8 Hr7
          rw [h35]
          clear h35
          go_upto_block 2 with fail
          simp only [E.out]
          rw [E.out] at P9
          generalize w8.setCell ⟨B, 1, none⟩ (.int .i64 ((j7 + 1 : Nat) : Int)) = w9 at P9 ⊢
          generalize j7 + 1 = m9 at *
          clear b1 b2 P9c E
          go_cut [] (fun wx => ∃ j : Nat, m9 ≤ j ∧ j ≤ s.size ∧ Hid ((rest s m9).takeWhile hexB = (s.extract m9 j).data.toList) ∧ Hid ((rest s m9).dropWhile hexB = rest s j) ∧ Hid (Dk wx B s j) ∧ Hid (Gr B w9 wx))
          case first =>
            go_wp2_with fail
            go_loopg [] (s.size - m9) (fun k wr => ∃ j : Nat, m9 ≤ j ∧ j ≤ s.size ∧ s.size - j ≤ k ∧ Hid ((rest s m9).takeWhile hexB = (s.extract m9 j).data.toList ++ (rest s j).takeWhile hexB) ∧ Hid ((rest s m9).dropWhile hexB = (rest s j).dropWhile hexB) ∧ Hid (Dk wr B s j) ∧ Hid (Gr B w9 wr))
            case atStart => exact ⟨m9, Nat.le_refl _, hm9, Nat.le_refl _, by show _ = _; simp, rfl, P9.out.dk, Gr.refl _ _⟩
            case round =>
              obtain ⟨j, hij, hj, hk, ht, hd, hRj, hG⟩ := hrel
              have c0 := hRj.out.c0
              have c1 := hRj.out.c1
              have f1 := hRj.out.f1
              by_cases hlt : j < s.size
              · have hdl : decide ((j : Int) < (s.size : Int)) = true := by simpa using hlt
                have Hrl := Lib.hid (rest_lt hlt)
                have Hx := Lib.hid (extract_snoc hij hlt)
                by_cases hty : 0 ≤ digit ((s[j]'hlt).toNat : Int)
                · go_wp2_with fail
                  go_quiet ((go_at_call 157; exact rdigit_quiet _ _ _ (Int.natCast_nonneg _) (byte_le _)))
                  go_wp2_with fail
                  go_roundg (s.size - (j + 1))
                  case measure => omega
                  case rel =>
                    refine ⟨j + 1, by omega, by omega, Nat.le_refl _, ?_, ?_, (hRj.out.drewN _).setCell (j + 1), (hG.out.drewN _).setCell _ _⟩
                    · show _ = _
                      rw [ht.out, Hrl.out, Hx.out, List.takeWhile_cons_of_pos (by simpa [hexB] using hty)]; simp
                    · show _ = _
                      rw [hd.out, Hrl.out, List.dropWhile_cons_of_pos (by simpa [hexB] using hty)]
                · have hty' : digit ((s[j]'hlt).toNat : Int) < 0 := by omega
                  go_wp2_with fail
                  go_quiet ((go_at_call 157; exact rdigit_quiet _ _ _ (Int.natCast_nonneg _) (byte_le _)))
                  go_wp2_with fail
                  go_meet
                  refine ⟨j, hij, hj, ?_, ?_, hRj.out.drewN _, hG.out.drewN _⟩
                  · show _ = _
                    rw [ht.out, Hrl.out, List.takeWhile_cons_of_neg (by simpa [hexB] using hty)]; simp
                  · show _ = _
                    rw [hd.out, Hrl.out, List.dropWhile_cons_of_neg (by simpa [hexB] using hty)]
              · have hdl : decide ((j : Int) < (s.size : Int)) = false := by simpa using hlt
                go_wp2_with fail
                go_quiet (fail)
                go_wp2_with fail
                go_meet
                refine ⟨j, hij, hj, ?_, ?_, hRj.out.drewN _, hG.out.drewN _⟩
                · show _ = _
                  rw [ht.out, rest_ge (by omega)]; simp
                · show _ = _
                  rw [hd.out, rest_ge (by omega)]; rfl
          case rest =>
            obtain ⟨j, hij, hj, ht, hd, hRj, hG⟩ := hcut
            have P10 := Lib.hid (P9.out.moved hRj.out hG.out)
            obtain ⟨u, hu⟩ : ∃ u, unhex (s.extract m9 j).data.toList = u := ⟨_, rfl⟩
            have Hr10 : Hid (r = ((someBytes u (rest s j)).map fun x => (x.1, skip x.2)).map fun x => ((tn.data.toList, x.1), x.2)) := by
              show r = _
              rw [Hr9.out, ← hu]; unfold hexR
              rw [ht.out, hd.out]
            have hxs : (s.extract m9 j).size ≤ s.size := by simp [ByteArray.size_extract]; omega
            have Hq : Hid (∀ x : ByteArray, x = s.extract m9 j → ∀ W, Calls Tryz.prog 158 #[.string x] W fun e w' => e = .returned (unhexV u) ∧ Below W.heap.size W w') := by
              intro x hx W
              rw [← hu, ← hx]
              exact rUnhex_calls x W (by rw [hx]; omega)
            have c0 := P10.out.dk.c0
            have c1 := P10.out.dk.c1
            clear hxs hu ht hd hRj hG P9 Hr9
            rcases u with _ | _ | ⟨a, u⟩
            · have Hn : Hid (r = none) := by show r = _; rw [Hr10.out]; rfl
              have Hq' : Hid (∀ x : ByteArray, x = s.extract m9 j → ∀ W, Calls Tryz.prog 158 #[.string x] W fun e w' => e = .returned (.tuple #[.string ⟨#[]⟩, .int .i64 11]) ∧ Below W.heap.size W w') := Hq
              clear Hq
              go_wp2_with fail
              have g0 := fun d os => grw_cell (w := wc) (a := ⟨B, 0, none⟩) c0 d os
              have g1 := fun d os => grw_cell (w := wc) (a := ⟨B, 1, none⟩) c1 d os
              refine region_below (by kernel_rfl) (by kernel_rfl) ?_
              repeat (quiet_step ((go_at_call 158; exact quiet_below (Hq'.out _ rfl _))))
              refine wpQuiet_nil ?_
              rintro w11 ⟨p, hp⟩
              have hb11 : Below wc.heap.size wc w11 := by rw [hp]; exact grw_below _ _ _
              have P11 := Lib.hid (P10.out.below hb11)
              clear hp g0 g1 hb11 c0 c1 P10 Hq'
              have x0 := P11.out.xb.c1
              have x1 := P11.out.xb.f1
              go_wp2_with fail
              have P12 := Lib.hid (P11.out.setV (.string ⟨#[]⟩))
              generalize w11.setCell ⟨k, 1, none⟩ (.string ⟨#[]⟩) = w12 at P12 ⊢
              clear x0 x1 P11
              refine (rBlanks_calls w12 B s j P12.out.dk hj hs').mono ?_
              rintro e w13 ⟨rfl, j13, hj13, hl13, hR13, hG13⟩
              have P13 := Lib.hid (P12.out.moved hR13 hG13)
              have L13 := Lib.hid hl13
              clear hR13 hG13 hl13 P12
              have a0 := P13.out.xb.c0
              have a1 := P13.out.xb.c1
              have d0 := P13.out.cb.c0
              have d1 := P13.out.cb.c1
              have d2 := P13.out.cb.f0
              have d3 := P13.out.cb.f1
              have PF := P13.out.fail
              have GF := Lib.hid PF.2
              have DF := Lib.hid P13.out.done
              have F0 := Lib.hid PF.1.c0
              have F1 := Lib.hid PF.1.c1
              clear PF
              go_wp2_with fail
              have f0 := F0.out
              have f1 := F1.out
              generalize (w13.setCell ⟨w.heap.size, 0, none⟩ (.string tn)).setCell ⟨w.heap.size, 1, none⟩ (.string ⟨#[]⟩) = w99 at *
              refine bodyPost_ret (v := .tuple #[.agg #[.string tn, (.string ⟨#[]⟩)], .bool false]) (by simp [results, Tryz.results127, go_sem, f0, f1]) rfl ?_
              exact pairD_none Hn.out GF.out
            · have Hn : Hid (r = none) := by show r = _; rw [Hr10.out]; rfl
              have Hq' : Hid (∀ x : ByteArray, x = s.extract m9 j → ∀ W, Calls Tryz.prog 158 #[.string x] W fun e w' => e = .returned (.tuple #[.string ⟨#[]⟩, .int .i64 0]) ∧ Below W.heap.size W w') := Hq
              clear Hq
              go_wp2_with fail
              have g0 := fun d os => grw_cell (w := wc) (a := ⟨B, 0, none⟩) c0 d os
              have g1 := fun d os => grw_cell (w := wc) (a := ⟨B, 1, none⟩) c1 d os
              refine region_below (by kernel_rfl) (by kernel_rfl) ?_
              repeat (quiet_step ((go_at_call 158; exact quiet_below (Hq'.out _ rfl _))))
              refine wpQuiet_nil ?_
              rintro w11 ⟨p, hp⟩
              have hb11 : Below wc.heap.size wc w11 := by rw [hp]; exact grw_below _ _ _
              have P11 := Lib.hid (P10.out.below hb11)
              clear hp g0 g1 hb11 c0 c1 P10 Hq'
              have x0 := P11.out.xb.c1
              have x1 := P11.out.xb.f1
              go_wp2_with fail
              have P12 := Lib.hid (P11.out.setV (.string ⟨#[]⟩))
              generalize w11.setCell ⟨k, 1, none⟩ (.string ⟨#[]⟩) = w12 at P12 ⊢
              clear x0 x1 P11
              refine (rBlanks_calls w12 B s j P12.out.dk hj hs').mono ?_
              rintro e w13 ⟨rfl, j13, hj13, hl13, hR13, hG13⟩
              have P13 := Lib.hid (P12.out.moved hR13 hG13)
              have L13 := Lib.hid hl13
              clear hR13 hG13 hl13 P12
              have a0 := P13.out.xb.c0
              have a1 := P13.out.xb.c1
              have d0 := P13.out.cb.c0
              have d1 := P13.out.cb.c1
              have d2 := P13.out.cb.f0
              have d3 := P13.out.cb.f1
              have PF := P13.out.fail
              have GF := Lib.hid PF.2
              have DF := Lib.hid P13.out.done
              have F0 := Lib.hid PF.1.c0
              have F1 := Lib.hid PF.1.c1
              clear PF
              go_wp2_with fail
              have f0 := F0.out
              have f1 := F1.out
              generalize (w13.setCell ⟨w.heap.size, 0, none⟩ (.string tn)).setCell ⟨w.heap.size, 1, none⟩ (.string ⟨#[]⟩) = w99 at *
              refine bodyPost_ret (v := .tuple #[.agg #[.string tn, (.string ⟨#[]⟩)], .bool false]) (by simp [results, Tryz.results127, go_sem, f0, f1]) rfl ?_
              exact pairD_none Hn.out GF.out
            · have Hn : Hid (r = some ((tn.data.toList, a :: u), skip (rest s j))) := by show r = _; rw [Hr10.out]; rfl
              have Hq' : Hid (∀ x : ByteArray, x = s.extract m9 j → ∀ W, Calls Tryz.prog 158 #[.string x] W fun e w' => e = .returned (.tuple #[.string ⟨(a :: u).toArray⟩, .int .i64 0]) ∧ Below W.heap.size W w') := Hq
              clear Hq
              go_wp2_with fail
              have g0 := fun d os => grw_cell (w := wc) (a := ⟨B, 0, none⟩) c0 d os
              have g1 := fun d os => grw_cell (w := wc) (a := ⟨B, 1, none⟩) c1 d os
              refine region_below (by kernel_rfl) (by kernel_rfl) ?_
              repeat (quiet_step ((go_at_call 158; exact quiet_below (Hq'.out _ rfl _))))
              refine wpQuiet_nil ?_
              rintro w11 ⟨p, hp⟩
              have hb11 : Below wc.heap.size wc w11 := by rw [hp]; exact grw_below _ _ _
              have P11 := Lib.hid (P10.out.below hb11)
              clear hp g0 g1 hb11 c0 c1 P10 Hq'
              have x0 := P11.out.xb.c1
              have x1 := P11.out.xb.f1
              go_wp2_with fail
              have P12 := Lib.hid (P11.out.setV (.string ⟨(a :: u).toArray⟩))
              generalize w11.setCell ⟨k, 1, none⟩ (.string ⟨(a :: u).toArray⟩) = w12 at P12 ⊢
              clear x0 x1 P11
              refine (rBlanks_calls w12 B s j P12.out.dk hj hs').mono ?_
              rintro e w13 ⟨rfl, j13, hj13, hl13, hR13, hG13⟩
              have P13 := Lib.hid (P12.out.moved hR13 hG13)
              have L13 := Lib.hid hl13
              clear hR13 hG13 hl13 P12
              have a0 := P13.out.xb.c0
              have a1 := P13.out.xb.c1
              have d0 := P13.out.cb.c0
              have d1 := P13.out.cb.c1
              have d2 := P13.out.cb.f0
              have d3 := P13.out.cb.f1
              have PF := P13.out.fail
              have GF := Lib.hid PF.2
              have DF := Lib.hid P13.out.done
              have F0 := Lib.hid PF.1.c0
              have F1 := Lib.hid PF.1.c1
              clear PF
              go_wp2_with fail
              have f0 := F0.out
              have f1 := F1.out
              generalize (w13.setCell ⟨w.heap.size, 0, none⟩ (.string tn)).setCell ⟨w.heap.size, 1, none⟩ (.string ⟨(a :: u).toArray⟩) = w99 at *
              refine bodyPost_ret (v := .tuple #[.agg #[.string tn, (.string ⟨(a :: u).toArray⟩)], .bool true]) (by simp [results, Tryz.results127, go_sem, f0, f1]) rfl ?_
              exact pairD_some (p := (tn.data.toList, a :: u)) Hn.out ⟨j13, hj13, L13.out, DF.out, GF.out⟩
        · have h35' : isAt 35 (rest s j7) = false := by simpa using h35
          clear h35
          have Hr9 : Hid (∃ n, (rest s j7).length < n ∧ (rValL n [] 0 (rest s j7)).map (fun x => ((tn.data.toList, x.1), x.2)) = r) := by
            refine ⟨(rest s j7).length + 1, by omega, ?_⟩
            rw [Hr7.out]; unfold rValueR
            rw [if_neg (by rw [h35']; simp)]
          have hkb : k < w8.heap.size := P8.out.xb.lt
          obtain ⟨base, hbase⟩ : ∃ base, w8.heap.size = base := ⟨_, rfl⟩
          have HBs : Hid (w8.heap.size = base) := hbase
          rw [hbase] at hkb
          rw [h35']
          clear hbase h35' Hr7
          obtain ⟨i0, hi0, hz0, hz1, hz2⟩ := info_parts info5
          go_upto_block 4 with fail
          go_cut [8, 9] (fun bv kv wx => ∃ (j keep : Nat) (b : List UInt8), j ≤ s.size ∧ keep ≤ b.length ∧ kv = .int .i64 (keep : Int) ∧ Hid (wx.ownsRow base 5 1 bv b.length (bytesV b)) ∧ Hid (r = some ((tn.data.toList, b.take keep), rest s j)) ∧ Hid (Pst w wx B k s j (.string tn) (.string ⟨#[]⟩)))
          case first =>
            obtain ⟨n9, hn9⟩ := Hr9.out
            go_wp2_with fail
            refine l3_loop w w8 B k base s tn r hs hkb _ _ _ _ _ _ _ _ _ _ _ _ _ _ _ _ _ _ _ _ _ _ _ _ _ _ _ _ _ _ _ _ _ _ _ _ _ _ _ _ _ _ _ _ _ _ _ _ _ _ _ _ _ _ _ _ _ _ _ _ _ _ _ _ _ _ _ _ _ _ _ _ _ _ _ _ _ _ _ _ _ _ _ _ _ _ _ _ _ _ _ _ _ _ _ _ _ _ _ _ _ _ _ _ _ _ _ _ _ _ _ _ _ _ _ _ _ _ _ _ _ _ _ _ _ _ _ _ _ _ _ _ _ _ _ _ _ _ _ _ _ _ _ _ _ _ _ _ _ _ _ _ _ _ _ _ _ _ _ _ _ _ _ _ _ _ _ _ _ _ _ _ _ _ _ _ _ _ _ _ _ _ _ _ _ _ _ _ _ _ _ _ _ _ _ _ _ _ _ _ _ _ _ _ _ _ _ _ _ _ _ _ _ _ _ _ _ _ _ _ _ _ _ _ _ _ _ _ _ _ _ _ _ _ _ _ _ _ _ _ _ _ _ _ _ _ _ _ _ _ _ _ _ _ _ _ _ _ _ _ _ _ _ _ _ _ _ _ _ _ _ _ _ _ _ _ _ _ _ _ _ _ _ _ _ _ _ _ _ _ _ _ _ _ _ _ _ _ _ _ _ _ _ _ _ _ _ _ _ _ _ _ _ _ _ _ _ _ _ _ _ _ _ _ _ _ _ _ _ _ _ _ _ _ _ _ (s.size - j7) ?hR _ ?hX ?hF
            case hR => exact ⟨j7, n9, 0, [], hj7, Nat.le_refl _, Nat.zero_le _, Nat.le_refl _, rfl, Nat.le_of_eq HBs.out.symm, World.ownsRow_nil _ _ _ _, hn9, P8.out⟩
            case hX =>
              intro a' w' hI
              unfold L3X at hI
              obtain ⟨p3, hI⟩ := hI
              obtain ⟨p8, hI⟩ := hI
              obtain ⟨p9, hI⟩ := hI
              obtain ⟨p10, hI⟩ := hI
              obtain ⟨p11, hI⟩ := hI
              obtain ⟨p183, hI⟩ := hI
              obtain ⟨p184, hI⟩ := hI
              obtain ⟨p185, hI⟩ := hI
              obtain ⟨p186, hI⟩ := hI
              obtain ⟨p187, hI⟩ := hI
              obtain ⟨p188, hI⟩ := hI
              obtain ⟨p189, hI⟩ := hI
              obtain ⟨p190, hI⟩ := hI
              obtain ⟨p191, hI⟩ := hI
              obtain ⟨p192, hI⟩ := hI
              obtain ⟨p193, hI⟩ := hI
              obtain ⟨p194, hI⟩ := hI
              obtain ⟨p195, hI⟩ := hI
              obtain ⟨p196, hI⟩ := hI
              obtain ⟨p197, hI⟩ := hI
              obtain ⟨p198, hI⟩ := hI
              obtain ⟨p199, hI⟩ := hI
              obtain ⟨p200, hI⟩ := hI
              obtain ⟨p201, hI⟩ := hI
              obtain ⟨p202, hI⟩ := hI
              obtain ⟨p203, hI⟩ := hI
              obtain ⟨p204, hI⟩ := hI
              obtain ⟨p205, hI⟩ := hI
              obtain ⟨p206, hI⟩ := hI
              obtain ⟨p207, hI⟩ := hI
              obtain ⟨p208, hI⟩ := hI
              obtain ⟨p209, hI⟩ := hI
              obtain ⟨p210, hI⟩ := hI
              obtain ⟨p211, hI⟩ := hI
              obtain ⟨p212, hI⟩ := hI
              obtain ⟨p213, hI⟩ := hI
              obtain ⟨p214, hI⟩ := hI
              obtain ⟨p215, hI⟩ := hI
              obtain ⟨p216, hI⟩ := hI
              obtain ⟨p217, hI⟩ := hI
              obtain ⟨p218, hI⟩ := hI
              obtain ⟨p219, hI⟩ := hI
              obtain ⟨p220, hI⟩ := hI
              obtain ⟨p221, hI⟩ := hI
              obtain ⟨p222, hI⟩ := hI
              obtain ⟨p223, hI⟩ := hI
              obtain ⟨p224, hI⟩ := hI
              obtain ⟨p225, hI⟩ := hI
              obtain ⟨p226, hI⟩ := hI
              obtain ⟨p227, hI⟩ := hI
              obtain ⟨p228, hI⟩ := hI
              obtain ⟨p229, hI⟩ := hI
              obtain ⟨p230, hI⟩ := hI
              obtain ⟨p231, hI⟩ := hI
              obtain ⟨p232, hI⟩ := hI
              obtain ⟨p233, hI⟩ := hI
              obtain ⟨p234, hI⟩ := hI
              obtain ⟨p235, hI⟩ := hI
              obtain ⟨p236, hI⟩ := hI
              obtain ⟨p237, hI⟩ := hI
              obtain ⟨p238, hI⟩ := hI
              obtain ⟨p239, hI⟩ := hI
              obtain ⟨p240, hI⟩ := hI
              obtain ⟨p241, hI⟩ := hI
              obtain ⟨p242, hI⟩ := hI
              obtain ⟨p243, hI⟩ := hI
              obtain ⟨p244, hI⟩ := hI
              obtain ⟨p245, hI⟩ := hI
              obtain ⟨p246, hI⟩ := hI
              obtain ⟨p247, hI⟩ := hI
              obtain ⟨p248, hI⟩ := hI
              obtain ⟨p249, hI⟩ := hI
              obtain ⟨p250, hI⟩ := hI
              obtain ⟨p251, hI⟩ := hI
              obtain ⟨p252, hI⟩ := hI
              obtain ⟨p253, hI⟩ := hI
              obtain ⟨p254, hI⟩ := hI
              obtain ⟨p255, hI⟩ := hI
              obtain ⟨p256, hI⟩ := hI
              obtain ⟨p257, hI⟩ := hI
              obtain ⟨p258, hI⟩ := hI
              obtain ⟨p259, hI⟩ := hI
              obtain ⟨p260, hI⟩ := hI
              obtain ⟨p261, hI⟩ := hI
              obtain ⟨p262, hI⟩ := hI
              obtain ⟨p263, hI⟩ := hI
              obtain ⟨p264, hI⟩ := hI
              obtain ⟨p265, hI⟩ := hI
              obtain ⟨p266, hI⟩ := hI
              obtain ⟨p267, hI⟩ := hI
              obtain ⟨p268, hI⟩ := hI
              obtain ⟨p269, hI⟩ := hI
              obtain ⟨p270, hI⟩ := hI
              obtain ⟨p271, hI⟩ := hI
              obtain ⟨p272, hI⟩ := hI
              obtain ⟨p273, hI⟩ := hI
              obtain ⟨p274, hI⟩ := hI
              obtain ⟨p275, hI⟩ := hI
              obtain ⟨p276, hI⟩ := hI
              obtain ⟨p277, hI⟩ := hI
              obtain ⟨p278, hI⟩ := hI
              obtain ⟨p279, hI⟩ := hI
              obtain ⟨p280, hI⟩ := hI
              obtain ⟨p281, hI⟩ := hI
              obtain ⟨p282, hI⟩ := hI
              obtain ⟨p283, hI⟩ := hI
              obtain ⟨p284, hI⟩ := hI
              obtain ⟨p285, hI⟩ := hI
              obtain ⟨p286, hI⟩ := hI
              obtain ⟨p287, hI⟩ := hI
              obtain ⟨p288, hI⟩ := hI
              obtain ⟨p289, hI⟩ := hI
              obtain ⟨p290, hI⟩ := hI
              obtain ⟨p291, hI⟩ := hI
              obtain ⟨p292, hI⟩ := hI
              obtain ⟨p293, hI⟩ := hI
              obtain ⟨p294, hI⟩ := hI
              obtain ⟨p295, hI⟩ := hI
              obtain ⟨p296, hI⟩ := hI
              obtain ⟨p297, hI⟩ := hI
              obtain ⟨p298, hI⟩ := hI
              obtain ⟨p299, hI⟩ := hI
              obtain ⟨p300, hI⟩ := hI
              obtain ⟨p301, hI⟩ := hI
              obtain ⟨p302, hI⟩ := hI
              obtain ⟨p303, hI⟩ := hI
              obtain ⟨p304, hI⟩ := hI
              obtain ⟨p305, hI⟩ := hI
              obtain ⟨p306, hI⟩ := hI
              obtain ⟨p307, hI⟩ := hI
              obtain ⟨p308, hI⟩ := hI
              obtain ⟨p309, hI⟩ := hI
              obtain ⟨p310, hI⟩ := hI
              obtain ⟨p311, hI⟩ := hI
              obtain ⟨p312, hI⟩ := hI
              obtain ⟨p313, hI⟩ := hI
              obtain ⟨p314, hI⟩ := hI
              obtain ⟨p315, hI⟩ := hI
              obtain ⟨p316, hI⟩ := hI
              obtain ⟨p317, hI⟩ := hI
              obtain ⟨p318, hI⟩ := hI
              obtain ⟨p319, hI⟩ := hI
              obtain ⟨p320, hI⟩ := hI
              obtain ⟨p321, hI⟩ := hI
              obtain ⟨p322, hI⟩ := hI
              obtain ⟨p323, hI⟩ := hI
              obtain ⟨p324, hI⟩ := hI
              obtain ⟨p325, hI⟩ := hI
              obtain ⟨p326, hI⟩ := hI
              obtain ⟨p327, hI⟩ := hI
              obtain ⟨p328, hI⟩ := hI
              obtain ⟨p329, hI⟩ := hI
              obtain ⟨p330, hI⟩ := hI
              obtain ⟨p331, hI⟩ := hI
              obtain ⟨p332, hI⟩ := hI
              obtain ⟨hE, ha⟩ := hI
              subst ha
              unfold L3E at hE
              go_wp2_with fail
              go_meet
              exact hE
            case hF =>
              intro a' w' hI
              unfold L3F at hI
              obtain ⟨p3, hI⟩ := hI
              obtain ⟨p8, hI⟩ := hI
              obtain ⟨p9, hI⟩ := hI
              obtain ⟨p10, hI⟩ := hI
              obtain ⟨p11, hI⟩ := hI
              obtain ⟨p183, hI⟩ := hI
              obtain ⟨p184, hI⟩ := hI
              obtain ⟨p185, hI⟩ := hI
              obtain ⟨p186, hI⟩ := hI
              obtain ⟨p187, hI⟩ := hI
              obtain ⟨p188, hI⟩ := hI
              obtain ⟨p189, hI⟩ := hI
              obtain ⟨p190, hI⟩ := hI
              obtain ⟨p191, hI⟩ := hI
              obtain ⟨p192, hI⟩ := hI
              obtain ⟨p193, hI⟩ := hI
              obtain ⟨p194, hI⟩ := hI
              obtain ⟨p195, hI⟩ := hI
              obtain ⟨p196, hI⟩ := hI
              obtain ⟨p197, hI⟩ := hI
              obtain ⟨p198, hI⟩ := hI
              obtain ⟨p199, hI⟩ := hI
              obtain ⟨p200, hI⟩ := hI
              obtain ⟨p201, hI⟩ := hI
              obtain ⟨p202, hI⟩ := hI
              obtain ⟨p203, hI⟩ := hI
              obtain ⟨p204, hI⟩ := hI
              obtain ⟨p205, hI⟩ := hI
              obtain ⟨p206, hI⟩ := hI
              obtain ⟨p207, hI⟩ := hI
              obtain ⟨p208, hI⟩ := hI
              obtain ⟨p209, hI⟩ := hI
              obtain ⟨p210, hI⟩ := hI
              obtain ⟨p211, hI⟩ := hI
              obtain ⟨p212, hI⟩ := hI
              obtain ⟨p213, hI⟩ := hI
              obtain ⟨p214, hI⟩ := hI
              obtain ⟨p215, hI⟩ := hI
              obtain ⟨p216, hI⟩ := hI
              obtain ⟨p217, hI⟩ := hI
              obtain ⟨p218, hI⟩ := hI
              obtain ⟨p219, hI⟩ := hI
              obtain ⟨p220, hI⟩ := hI
              obtain ⟨p221, hI⟩ := hI
              obtain ⟨p222, hI⟩ := hI
              obtain ⟨p223, hI⟩ := hI
              obtain ⟨p224, hI⟩ := hI
              obtain ⟨p225, hI⟩ := hI
              obtain ⟨p226, hI⟩ := hI
              obtain ⟨p227, hI⟩ := hI
              obtain ⟨p228, hI⟩ := hI
              obtain ⟨p229, hI⟩ := hI
              obtain ⟨p230, hI⟩ := hI
              obtain ⟨p231, hI⟩ := hI
              obtain ⟨p232, hI⟩ := hI
              obtain ⟨p233, hI⟩ := hI
              obtain ⟨p234, hI⟩ := hI
              obtain ⟨p235, hI⟩ := hI
              obtain ⟨p236, hI⟩ := hI
              obtain ⟨p237, hI⟩ := hI
              obtain ⟨p238, hI⟩ := hI
              obtain ⟨p239, hI⟩ := hI
              obtain ⟨p240, hI⟩ := hI
              obtain ⟨p241, hI⟩ := hI
              obtain ⟨p242, hI⟩ := hI
              obtain ⟨p243, hI⟩ := hI
              obtain ⟨p244, hI⟩ := hI
              obtain ⟨p245, hI⟩ := hI
              obtain ⟨p246, hI⟩ := hI
              obtain ⟨p247, hI⟩ := hI
              obtain ⟨p248, hI⟩ := hI
              obtain ⟨p249, hI⟩ := hI
              obtain ⟨p250, hI⟩ := hI
              obtain ⟨p251, hI⟩ := hI
              obtain ⟨p252, hI⟩ := hI
              obtain ⟨p253, hI⟩ := hI
              obtain ⟨p254, hI⟩ := hI
              obtain ⟨p255, hI⟩ := hI
              obtain ⟨p256, hI⟩ := hI
              obtain ⟨p257, hI⟩ := hI
              obtain ⟨p258, hI⟩ := hI
              obtain ⟨p259, hI⟩ := hI
              obtain ⟨p260, hI⟩ := hI
              obtain ⟨p261, hI⟩ := hI
              obtain ⟨p262, hI⟩ := hI
              obtain ⟨p263, hI⟩ := hI
              obtain ⟨p264, hI⟩ := hI
              obtain ⟨p265, hI⟩ := hI
              obtain ⟨p266, hI⟩ := hI
              obtain ⟨p267, hI⟩ := hI
              obtain ⟨p268, hI⟩ := hI
              obtain ⟨p269, hI⟩ := hI
              obtain ⟨p270, hI⟩ := hI
              obtain ⟨p271, hI⟩ := hI
              obtain ⟨p272, hI⟩ := hI
              obtain ⟨p273, hI⟩ := hI
              obtain ⟨p274, hI⟩ := hI
              obtain ⟨p275, hI⟩ := hI
              obtain ⟨p276, hI⟩ := hI
              obtain ⟨p277, hI⟩ := hI
              obtain ⟨p278, hI⟩ := hI
              obtain ⟨p279, hI⟩ := hI
              obtain ⟨p280, hI⟩ := hI
              obtain ⟨p281, hI⟩ := hI
              obtain ⟨p282, hI⟩ := hI
              obtain ⟨p283, hI⟩ := hI
              obtain ⟨p284, hI⟩ := hI
              obtain ⟨p285, hI⟩ := hI
              obtain ⟨p286, hI⟩ := hI
              obtain ⟨p287, hI⟩ := hI
              obtain ⟨p288, hI⟩ := hI
              obtain ⟨p289, hI⟩ := hI
              obtain ⟨p290, hI⟩ := hI
              obtain ⟨p291, hI⟩ := hI
              obtain ⟨p292, hI⟩ := hI
              obtain ⟨p293, hI⟩ := hI
              obtain ⟨p294, hI⟩ := hI
              obtain ⟨p295, hI⟩ := hI
              obtain ⟨p296, hI⟩ := hI
              obtain ⟨p297, hI⟩ := hI
              obtain ⟨p298, hI⟩ := hI
              obtain ⟨p299, hI⟩ := hI
              obtain ⟨p300, hI⟩ := hI
              obtain ⟨p301, hI⟩ := hI
              obtain ⟨p302, hI⟩ := hI
              obtain ⟨p303, hI⟩ := hI
              obtain ⟨p304, hI⟩ := hI
              obtain ⟨p305, hI⟩ := hI
              obtain ⟨p306, hI⟩ := hI
              obtain ⟨p307, hI⟩ := hI
              obtain ⟨p308, hI⟩ := hI
              obtain ⟨p309, hI⟩ := hI
              obtain ⟨p310, hI⟩ := hI
              obtain ⟨p311, hI⟩ := hI
              obtain ⟨p312, hI⟩ := hI
              obtain ⟨p313, hI⟩ := hI
              obtain ⟨p314, hI⟩ := hI
              obtain ⟨p315, hI⟩ := hI
              obtain ⟨p316, hI⟩ := hI
              obtain ⟨p317, hI⟩ := hI
              obtain ⟨p318, hI⟩ := hI
              obtain ⟨p319, hI⟩ := hI
              obtain ⟨p320, hI⟩ := hI
              obtain ⟨p321, hI⟩ := hI
              obtain ⟨p322, hI⟩ := hI
              obtain ⟨p323, hI⟩ := hI
              obtain ⟨p324, hI⟩ := hI
              obtain ⟨p325, hI⟩ := hI
              obtain ⟨p326, hI⟩ := hI
              obtain ⟨p327, hI⟩ := hI
              obtain ⟨p328, hI⟩ := hI
              obtain ⟨p329, hI⟩ := hI
              obtain ⟨p330, hI⟩ := hI
              obtain ⟨p331, hI⟩ := hI
              obtain ⟨p332, hI⟩ := hI
              obtain ⟨⟨h3, Hn, TF, GF⟩, ha⟩ := hI
              subst ha
              subst h3
              have f0 := TF.out.c0
              have f1 := TF.out.c1
              refine bodyPost_ret (v := .tuple #[.agg #[.string tn, .string ⟨#[]⟩], .bool false]) (by simp [results, Tryz.results127, go_sem, f0, f1]) rfl ?_
              exact pairD_none Hn.out GF.out
          case rest =>
            obtain ⟨j, keep, b, hj, hkp, rfl, hown, hres, hP⟩ := hcut
            have x0 := hP.out.xb.c1
            have x1 := hP.out.xb.f1
            obtain ⟨bb, hbb⟩ : ∃ bb, b.take keep = bb := ⟨_, rfl⟩
            have HBB := Lib.hid hbb
            have P12 := Lib.hid (hP.out.setV (.string ⟨bb.toArray⟩))
            rw [hbb] at hres
            clear hbb
            have Hown := hown.out.2
            rcases Hown with ⟨hv, hb0⟩ | ⟨g, cap, cur, hv, hg, hh, hnc, hcm, hsz, htk⟩
            · have hl0 : keep = 0 := by omega
              have hb1 : b = [] := List.length_eq_zero_iff.1 hb0
              have hcv : (convert 88 9 (.slice none 0 0)).run Tryz.prog wc = .ok (.string ⟨bb.toArray⟩) wc := by
                rw [run_convert_bytes_nil wc 88 5 Tryz.underlying88 Tryz.underlying5 0 0 9 Tryz.underlying9, ← HBB.out, hb1, List.take_nil]; rfl
              subst hl0
              subst hv
              clear hb0 hb1 hown hP
              go_upto_region 42 with fail
              generalize wc.setCell ⟨k, 1, none⟩ (.string ⟨bb.toArray⟩) = w12 at P12 ⊢
              clear x0 x1 hcv
              have a0 := P12.out.xb.c0
              have a1 := P12.out.xb.c1
              have d0 := P12.out.cb.c0
              have d1 := P12.out.cb.c1
              have d2 := P12.out.cb.f0
              have d3 := P12.out.cb.f1
              have PF := P12.out.fail
              have GF := Lib.hid PF.2
              have DF := Lib.hid P12.out.done
              have F0 := Lib.hid PF.1.c0
              have F1 := Lib.hid PF.1.c1
              clear PF
              go_wp2_with fail
              have f0 := F0.out
              have f1 := F1.out
              generalize (w12.setCell ⟨w.heap.size, 0, none⟩ (.string tn)).setCell ⟨w.heap.size, 1, none⟩ (.string ⟨bb.toArray⟩) = w99 at *
              refine bodyPost_ret (v := .tuple #[.agg #[.string tn, (.string ⟨bb.toArray⟩)], .bool true]) (by simp [results, Tryz.results127, go_sem, f0, f1]) rfl ?_
              exact pairD_some (p := (tn.data.toList, bb)) hres.out ⟨j, hj, rfl, DF.out, GF.out⟩
            · subst hv
              have hcv : (convert 88 9 (.slice (some ⟨g, 0, none⟩) keep cap)).run Tryz.prog wc = .ok (.string ⟨bb.toArray⟩) wc := HBB.out ▸ convert_own hown.out hkp cap
              clear hh htk hsz hg hown hP
              go_upto_region 42 with fail
              generalize wc.setCell ⟨k, 1, none⟩ (.string ⟨bb.toArray⟩) = w12 at P12 ⊢
              clear x0 x1 hcv
              have a0 := P12.out.xb.c0
              have a1 := P12.out.xb.c1
              have d0 := P12.out.cb.c0
              have d1 := P12.out.cb.c1
              have d2 := P12.out.cb.f0
              have d3 := P12.out.cb.f1
              have PF := P12.out.fail
              have GF := Lib.hid PF.2
              have DF := Lib.hid P12.out.done
              have F0 := Lib.hid PF.1.c0
              have F1 := Lib.hid PF.1.c1
              clear PF
              go_wp2_with fail
              have f0 := F0.out
              have f1 := F1.out
              generalize (w12.setCell ⟨w.heap.size, 0, none⟩ (.string tn)).setCell ⟨w.heap.size, 1, none⟩ (.string ⟨bb.toArray⟩) = w99 at *
              refine bodyPost_ret (v := .tuple #[.agg #[.string tn, (.string ⟨bb.toArray⟩)], .bool true]) (by simp [results, Tryz.results127, go_sem, f0, f1]) rfl ?_
              exact pairD_some (p := (tn.data.toList, bb)) hres.out ⟨j, hj, rfl, DF.out, GF.out⟩
      · have e61 : isAt 61 (rest s j3) = false := by simpa using h61
        have Hn : Hid (r = none) := by show r = _; simp only [Hr3.out, if_true, if_neg h61]
        clear h61
        have a0 := P5.out.xb.c0
        have a1 := P5.out.xb.c1
        have d0 := P5.out.cb.c0
        have d1 := P5.out.cb.c1
        have d2 := P5.out.cb.f0
        have d3 := P5.out.cb.f1
        have PF := P5.out.fail
        have GF := Lib.hid PF.2
        have f0 := PF.1.c0
        have f1 := PF.1.c1
        clear PF
        have F0 := Lib.hid f0
        have F1 := Lib.hid f1
        clear f0 f1
        go_wp2_with fail
        have f0 := F0.out
        have f1 := F1.out
        generalize (w5.setCell ⟨w.heap.size, 0, none⟩ (.string tn)).setCell ⟨w.heap.size, 1, none⟩ (.string ⟨#[]⟩) = w99 at *
        refine bodyPost_ret (v := .tuple #[.agg #[(.string tn), (.string ⟨#[]⟩)], .bool false]) (by simp [results, Tryz.results127, go_sem, f0, f1]) rfl ?_
        exact pairD_none Hn.out GF.out
end Sy
end Go.Proofs.YthoealembhkaoaaGreatDoor
