/-
  Parts of a proof: see the row.
-/
import Derived.Test.YtljdcbcjdlpbgaaNums2
set_option linter.unusedVariables false
set_option linter.unusedSimpArgs false
open Go Go.Vc Go.V2 Go.Proofs
namespace Go.Proofs.Ash
set_option maxRecDepth 100000 in
/-- disk.New -/
theorem diskNew_vc (n : Int) (G : FF) (H : Heap) (R : FX [.ptr]) (h :
 newK (Obj.cells #[.slice none 0 0, .slice none 0 0, .slice none 0 0, .int .i64 (-1), .bool false] 68) H fun (r1 : Nat) (H2 : Heap) =>
 stepX G H H2 fun (G3 : FF) =>
 ∃ (I4 : Nat → Int → FF → Heap → Prop),
 (∃ (m5 : Nat), I4 m5 0 G3 H2) ∧
  ∀ (_ : Nat → Value) (G7 : FF) (H8 : Heap),
  Im G3 H2 G7 H8 →
  ∀ (n9 : Int) (m10 : Nat),
  I4 m10 n9 G7 H8 →
   br (decide (n9 < if 2000 < if 0 > n then 0 else n then 2000 else if 0 > n then 0 else n))
   (ldSl ⟨r1, 0, none⟩ H8 fun (p11 : Option Addr) (n12 c13 : Nat) =>
   ldSl ⟨r1, 1, none⟩ H8 fun (p14 : Option Addr) (n15 c16 : Nat) =>
   (msV Try.prog 29 (.int .i64 256) (.int .i64 256) H8 fun (v17 : Value) (H18 : Heap) =>
    ∃ (p19 : Option Addr),
    ∃ (n20 : Nat),
    ∃ (c21 : Nat),
     v17 = Value.slice p19 n20 c21 ∧
     stepX G7 H8 H18 fun (G22 : FF) =>
     (ldSl ⟨r1, 1, none⟩ H18 fun (p23 : Option Addr) (n24 c25 : Nat) => sameV (.slice p14 n15 c16) (.slice p23 n24 c25)) ∧
     (ldSl ⟨r1, 0, none⟩ H18 fun (p26 : Option Addr) (n27 c28 : Nat) => sameV (.slice p11 n12 c13) (.slice p26 n27 c28)) ∧
      (newK (Obj.cells #[.slice p19 n20 c21] 29) H18 fun (r29 : Nat) (H30 : Heap) =>
      stepX G22 H18 H30 fun (G31 : FF) =>
      (ldSl ⟨r1, 1, none⟩ H30 fun (p32 : Option Addr) (n33 c34 : Nat) => sameV (.slice p14 n15 c16) (.slice p32 n33 c34)) ∧
       (ldSl ⟨r1, 0, none⟩ H30 fun (p35 : Option Addr) (n36 c37 : Nat) => sameV (.slice p11 n12 c13) (.slice p35 n36 c37)) ∧
       (appV Try.prog #[45, 45] 45 #[.slice p11 n12 c13, .slice (some ⟨r29, 0, none⟩) 1 1] H30 fun (v38 : Value) (H39 : Heap) =>
       ∃ (p40 : Option Addr),
        ∃ (n41 : Nat),
        ∃ (c42 : Nat),
        v38 = Value.slice p40 n41 c42 ∧
        stepX G31 H30 H39 fun (G43 : FF) =>
         (ldSl ⟨r1, 1, none⟩ H39 fun (p44 : Option Addr) (n45 c46 : Nat) =>
         sameV (.slice p14 n15 c16) (.slice p44 n45 c46)) ∧
         msV Try.prog 29 (.int .i64 256) (.int .i64 256) H39 fun (v47 : Value) (H48 : Heap) =>
         ∃ (p49 : Option Addr),
         ∃ (n50 : Nat),
          ∃ (c51 : Nat),
          v47 = Value.slice p49 n50 c51 ∧
          stepX G43 H39 H48 fun (G52 : FF) =>
          (ldSl ⟨r1, 1, none⟩ H48 fun (p53 : Option Addr) (n54 c55 : Nat) =>
           sameV (.slice p14 n15 c16) (.slice p53 n54 c55)) ∧
           newK (Obj.cells #[.slice p49 n50 c51] 29) H48 fun (r56 : Nat) (H57 : Heap) =>
           stepX G52 H48 H57 fun (G58 : FF) =>
           (ldSl ⟨r1, 1, none⟩ H57 fun (p59 : Option Addr) (n60 c61 : Nat) =>
            sameV (.slice p14 n15 c16) (.slice p59 n60 c61)) ∧
           appV Try.prog #[45, 45] 45 #[.slice p14 n15 c16, .slice (some ⟨r56, 0, none⟩) 1 1] H57
            fun (v62 : Value) (H63 : Heap) =>
            ∃ (p64 : Option Addr),
            ∃ (n65 : Nat),
            ∃ (c66 : Nat),
            v62 = Value.slice p64 n65 c66 ∧
             stepX G58 H57 H63 fun (G67 : FF) =>
             stV ⟨r1, 0, none⟩ (.slice p40 n41 c42) H63 fun (H68 : Heap) =>
             stepX G67 H63 H68 fun (G69 : FF) =>
             stV ⟨r1, 1, none⟩ (.slice p64 n65 c66) H68 fun (H70 : Heap) =>
              stepX G69 H68 H70 fun (G71 : FF) =>
              ∃ (m'72 : Nat), ltK m'72 m10 ∧ I4 m'72 (IntKind.wrap .i64 (n9 + 1)) G71 H70) ∧
       msV Try.prog 29 (.int .i64 256) (.int .i64 256) H30 fun (v73 : Value) (H74 : Heap) =>
       ∃ (p75 : Option Addr),
        ∃ (n76 : Nat),
        ∃ (c77 : Nat),
        v73 = Value.slice p75 n76 c77 ∧
        stepX G31 H30 H74 fun (G78 : FF) =>
         (ldSl ⟨r1, 1, none⟩ H74 fun (p79 : Option Addr) (n80 c81 : Nat) =>
         sameV (.slice p14 n15 c16) (.slice p79 n80 c81)) ∧
         (ldSl ⟨r1, 0, none⟩ H74 fun (p82 : Option Addr) (n83 c84 : Nat) =>
         sameV (.slice p11 n12 c13) (.slice p82 n83 c84)) ∧
         (appV Try.prog #[45, 45] 45 #[.slice p11 n12 c13, .slice (some ⟨r29, 0, none⟩) 1 1] H74
          fun (v85 : Value) (H86 : Heap) =>
          ∃ (p87 : Option Addr),
          ∃ (n88 : Nat),
          ∃ (c89 : Nat),
          v85 = Value.slice p87 n88 c89 ∧
           stepX G78 H74 H86 fun (G90 : FF) =>
           (ldSl ⟨r1, 1, none⟩ H86 fun (p91 : Option Addr) (n92 c93 : Nat) =>
           sameV (.slice p14 n15 c16) (.slice p91 n92 c93)) ∧
           newK (Obj.cells #[.slice p75 n76 c77] 29) H86 fun (r94 : Nat) (H95 : Heap) =>
           stepX G90 H86 H95 fun (G96 : FF) =>
            (ldSl ⟨r1, 1, none⟩ H95 fun (p97 : Option Addr) (n98 c99 : Nat) =>
            sameV (.slice p14 n15 c16) (.slice p97 n98 c99)) ∧
            appV Try.prog #[45, 45] 45 #[.slice p14 n15 c16, .slice (some ⟨r94, 0, none⟩) 1 1] H95
            fun (v100 : Value) (H101 : Heap) =>
            ∃ (p102 : Option Addr),
            ∃ (n103 : Nat),
             ∃ (c104 : Nat),
             v100 = Value.slice p102 n103 c104 ∧
             stepX G96 H95 H101 fun (G105 : FF) =>
             stV ⟨r1, 0, none⟩ (.slice p87 n88 c89) H101 fun (H106 : Heap) =>
              stepX G105 H101 H106 fun (G107 : FF) =>
              stV ⟨r1, 1, none⟩ (.slice p102 n103 c104) H106 fun (H108 : Heap) =>
              stepX G107 H106 H108 fun (G109 : FF) =>
              ∃ (m'110 : Nat), ltK m'110 m10 ∧ I4 m'110 (IntKind.wrap .i64 (n9 + 1)) G109 H108) ∧
         newK (Obj.cells #[.slice p75 n76 c77] 29) H74 fun (r111 : Nat) (H112 : Heap) =>
          stepX G78 H74 H112 fun (G113 : FF) =>
          (ldSl ⟨r1, 1, none⟩ H112 fun (p114 : Option Addr) (n115 c116 : Nat) =>
          sameV (.slice p14 n15 c16) (.slice p114 n115 c116)) ∧
          (ldSl ⟨r1, 0, none⟩ H112 fun (p117 : Option Addr) (n118 c119 : Nat) =>
           sameV (.slice p11 n12 c13) (.slice p117 n118 c119)) ∧
          appV Try.prog #[45, 45] 45 #[.slice p11 n12 c13, .slice (some ⟨r29, 0, none⟩) 1 1] H112
           fun (v120 : Value) (H121 : Heap) =>
           ∃ (p122 : Option Addr),
           ∃ (n123 : Nat),
           ∃ (c124 : Nat),
           v120 = Value.slice p122 n123 c124 ∧
            stepX G113 H112 H121 fun (G125 : FF) =>
            (ldSl ⟨r1, 1, none⟩ H121 fun (p126 : Option Addr) (n127 c128 : Nat) =>
            sameV (.slice p14 n15 c16) (.slice p126 n127 c128)) ∧
            appV Try.prog #[45, 45] 45 #[.slice p14 n15 c16, .slice (some ⟨r111, 0, none⟩) 1 1]
            H121 fun (v129 : Value) (H130 : Heap) =>
            ∃ (p131 : Option Addr),
             ∃ (n132 : Nat),
             ∃ (c133 : Nat),
             v129 = Value.slice p131 n132 c133 ∧
             stepX G125 H121 H130 fun (G134 : FF) =>
              stV ⟨r1, 0, none⟩ (.slice p122 n123 c124) H130 fun (H135 : Heap) =>
              stepX G134 H130 H135 fun (G136 : FF) =>
              stV ⟨r1, 1, none⟩ (.slice p131 n132 c133) H135 fun (H137 : Heap) =>
              stepX G136 H135 H137 fun (G138 : FF) =>
               ∃ (m'139 : Nat),
               ltK m'139 m10 ∧ I4 m'139 (IntKind.wrap .i64 (n9 + 1)) G138 H137) ∧
      msV Try.prog 29 (.int .i64 256) (.int .i64 256) H18 fun (v140 : Value) (H141 : Heap) =>
      ∃ (p142 : Option Addr),
      ∃ (n143 : Nat),
       ∃ (c144 : Nat),
       v140 = Value.slice p142 n143 c144 ∧
       stepX G22 H18 H141 fun (G145 : FF) =>
       (ldSl ⟨r1, 1, none⟩ H141 fun (p146 : Option Addr) (n147 c148 : Nat) => sameV (.slice p14 n15 c16) (.slice p146 n147 c148)) ∧
        (ldSl ⟨r1, 0, none⟩ H141 fun (p149 : Option Addr) (n150 c151 : Nat) =>
        sameV (.slice p11 n12 c13) (.slice p149 n150 c151)) ∧
        (newK (Obj.cells #[.slice p19 n20 c21] 29) H141 fun (r152 : Nat) (H153 : Heap) =>
        stepX G145 H141 H153 fun (G154 : FF) =>
         (ldSl ⟨r1, 1, none⟩ H153 fun (p155 : Option Addr) (n156 c157 : Nat) =>
         sameV (.slice p14 n15 c16) (.slice p155 n156 c157)) ∧
         (ldSl ⟨r1, 0, none⟩ H153 fun (p158 : Option Addr) (n159 c160 : Nat) =>
         sameV (.slice p11 n12 c13) (.slice p158 n159 c160)) ∧
         (appV Try.prog #[45, 45] 45 #[.slice p11 n12 c13, .slice (some ⟨r152, 0, none⟩) 1 1] H153
          fun (v161 : Value) (H162 : Heap) =>
          ∃ (p163 : Option Addr),
          ∃ (n164 : Nat),
          ∃ (c165 : Nat),
          v161 = Value.slice p163 n164 c165 ∧
           stepX G154 H153 H162 fun (G166 : FF) =>
           (ldSl ⟨r1, 1, none⟩ H162 fun (p167 : Option Addr) (n168 c169 : Nat) =>
           sameV (.slice p14 n15 c16) (.slice p167 n168 c169)) ∧
           newK (Obj.cells #[.slice p142 n143 c144] 29) H162 fun (r170 : Nat) (H171 : Heap) =>
           stepX G166 H162 H171 fun (G172 : FF) =>
            (ldSl ⟨r1, 1, none⟩ H171 fun (p173 : Option Addr) (n174 c175 : Nat) =>
            sameV (.slice p14 n15 c16) (.slice p173 n174 c175)) ∧
            appV Try.prog #[45, 45] 45 #[.slice p14 n15 c16, .slice (some ⟨r170, 0, none⟩) 1 1] H171
            fun (v176 : Value) (H177 : Heap) =>
            ∃ (p178 : Option Addr),
            ∃ (n179 : Nat),
             ∃ (c180 : Nat),
             v176 = Value.slice p178 n179 c180 ∧
             stepX G172 H171 H177 fun (G181 : FF) =>
             stV ⟨r1, 0, none⟩ (.slice p163 n164 c165) H177 fun (H182 : Heap) =>
              stepX G181 H177 H182 fun (G183 : FF) =>
              stV ⟨r1, 1, none⟩ (.slice p178 n179 c180) H182 fun (H184 : Heap) =>
              stepX G183 H182 H184 fun (G185 : FF) =>
              ∃ (m'186 : Nat), ltK m'186 m10 ∧ I4 m'186 (IntKind.wrap .i64 (n9 + 1)) G185 H184) ∧
         newK (Obj.cells #[.slice p142 n143 c144] 29) H153 fun (r187 : Nat) (H188 : Heap) =>
          stepX G154 H153 H188 fun (G189 : FF) =>
          (ldSl ⟨r1, 1, none⟩ H188 fun (p190 : Option Addr) (n191 c192 : Nat) =>
          sameV (.slice p14 n15 c16) (.slice p190 n191 c192)) ∧
          (ldSl ⟨r1, 0, none⟩ H188 fun (p193 : Option Addr) (n194 c195 : Nat) =>
           sameV (.slice p11 n12 c13) (.slice p193 n194 c195)) ∧
          appV Try.prog #[45, 45] 45 #[.slice p11 n12 c13, .slice (some ⟨r152, 0, none⟩) 1 1] H188
           fun (v196 : Value) (H197 : Heap) =>
           ∃ (p198 : Option Addr),
           ∃ (n199 : Nat),
           ∃ (c200 : Nat),
           v196 = Value.slice p198 n199 c200 ∧
            stepX G189 H188 H197 fun (G201 : FF) =>
            (ldSl ⟨r1, 1, none⟩ H197 fun (p202 : Option Addr) (n203 c204 : Nat) =>
            sameV (.slice p14 n15 c16) (.slice p202 n203 c204)) ∧
            appV Try.prog #[45, 45] 45 #[.slice p14 n15 c16, .slice (some ⟨r187, 0, none⟩) 1 1]
            H197 fun (v205 : Value) (H206 : Heap) =>
            ∃ (p207 : Option Addr),
             ∃ (n208 : Nat),
             ∃ (c209 : Nat),
             v205 = Value.slice p207 n208 c209 ∧
             stepX G201 H197 H206 fun (G210 : FF) =>
              stV ⟨r1, 0, none⟩ (.slice p198 n199 c200) H206 fun (H211 : Heap) =>
              stepX G210 H206 H211 fun (G212 : FF) =>
              stV ⟨r1, 1, none⟩ (.slice p207 n208 c209) H211 fun (H213 : Heap) =>
              stepX G212 H211 H213 fun (G214 : FF) =>
               ∃ (m'215 : Nat),
               ltK m'215 m10 ∧ I4 m'215 (IntKind.wrap .i64 (n9 + 1)) G214 H213) ∧
        newK (Obj.cells #[.slice p142 n143 c144] 29) H141 fun (r216 : Nat) (H217 : Heap) =>
        stepX G145 H141 H217 fun (G218 : FF) =>
         (ldSl ⟨r1, 1, none⟩ H217 fun (p219 : Option Addr) (n220 c221 : Nat) =>
         sameV (.slice p14 n15 c16) (.slice p219 n220 c221)) ∧
         (ldSl ⟨r1, 0, none⟩ H217 fun (p222 : Option Addr) (n223 c224 : Nat) =>
         sameV (.slice p11 n12 c13) (.slice p222 n223 c224)) ∧
         newK (Obj.cells #[.slice p19 n20 c21] 29) H217 fun (r225 : Nat) (H226 : Heap) =>
         stepX G218 H217 H226 fun (G227 : FF) =>
          (ldSl ⟨r1, 1, none⟩ H226 fun (p228 : Option Addr) (n229 c230 : Nat) =>
          sameV (.slice p14 n15 c16) (.slice p228 n229 c230)) ∧
          (ldSl ⟨r1, 0, none⟩ H226 fun (p231 : Option Addr) (n232 c233 : Nat) =>
          sameV (.slice p11 n12 c13) (.slice p231 n232 c233)) ∧
          appV Try.prog #[45, 45] 45 #[.slice p11 n12 c13, .slice (some ⟨r225, 0, none⟩) 1 1] H226
          fun (v234 : Value) (H235 : Heap) =>
          ∃ (p236 : Option Addr),
           ∃ (n237 : Nat),
           ∃ (c238 : Nat),
           v234 = Value.slice p236 n237 c238 ∧
           stepX G227 H226 H235 fun (G239 : FF) =>
            (ldSl ⟨r1, 1, none⟩ H235 fun (p240 : Option Addr) (n241 c242 : Nat) =>
            sameV (.slice p14 n15 c16) (.slice p240 n241 c242)) ∧
            appV Try.prog #[45, 45] 45 #[.slice p14 n15 c16, .slice (some ⟨r216, 0, none⟩) 1 1] H235
            fun (v243 : Value) (H244 : Heap) =>
            ∃ (p245 : Option Addr),
            ∃ (n246 : Nat),
             ∃ (c247 : Nat),
             v243 = Value.slice p245 n246 c247 ∧
             stepX G239 H235 H244 fun (G248 : FF) =>
             stV ⟨r1, 0, none⟩ (.slice p236 n237 c238) H244 fun (H249 : Heap) =>
              stepX G248 H244 H249 fun (G250 : FF) =>
              stV ⟨r1, 1, none⟩ (.slice p245 n246 c247) H249 fun (H251 : Heap) =>
              stepX G250 H249 H251 fun (G252 : FF) =>
              ∃ (m'253 : Nat), ltK m'253 m10 ∧ I4 m'253 (IntKind.wrap .i64 (n9 + 1)) G252 H251) ∧
    msV Try.prog 29 (.int .i64 256) (.int .i64 256) H8 fun (v254 : Value) (H255 : Heap) =>
    ∃ (p256 : Option Addr),
    ∃ (n257 : Nat),
    ∃ (c258 : Nat),
     v254 = Value.slice p256 n257 c258 ∧
     stepX G7 H8 H255 fun (G259 : FF) =>
     (ldSl ⟨r1, 1, none⟩ H255 fun (p260 : Option Addr) (n261 c262 : Nat) => sameV (.slice p14 n15 c16) (.slice p260 n261 c262)) ∧
     (ldSl ⟨r1, 0, none⟩ H255 fun (p263 : Option Addr) (n264 c265 : Nat) => sameV (.slice p11 n12 c13) (.slice p263 n264 c265)) ∧
      (msV Try.prog 29 (.int .i64 256) (.int .i64 256) H255 fun (v266 : Value) (H267 : Heap) =>
      ∃ (p268 : Option Addr),
      ∃ (n269 : Nat),
       ∃ (c270 : Nat),
       v266 = Value.slice p268 n269 c270 ∧
       stepX G259 H255 H267 fun (G271 : FF) =>
       (ldSl ⟨r1, 1, none⟩ H267 fun (p272 : Option Addr) (n273 c274 : Nat) => sameV (.slice p14 n15 c16) (.slice p272 n273 c274)) ∧
        (ldSl ⟨r1, 0, none⟩ H267 fun (p275 : Option Addr) (n276 c277 : Nat) =>
        sameV (.slice p11 n12 c13) (.slice p275 n276 c277)) ∧
        (newK (Obj.cells #[.slice p268 n269 c270] 29) H267 fun (r278 : Nat) (H279 : Heap) =>
        stepX G271 H267 H279 fun (G280 : FF) =>
         (ldSl ⟨r1, 1, none⟩ H279 fun (p281 : Option Addr) (n282 c283 : Nat) =>
         sameV (.slice p14 n15 c16) (.slice p281 n282 c283)) ∧
         (ldSl ⟨r1, 0, none⟩ H279 fun (p284 : Option Addr) (n285 c286 : Nat) =>
         sameV (.slice p11 n12 c13) (.slice p284 n285 c286)) ∧
         (appV Try.prog #[45, 45] 45 #[.slice p11 n12 c13, .slice (some ⟨r278, 0, none⟩) 1 1] H279
          fun (v287 : Value) (H288 : Heap) =>
          ∃ (p289 : Option Addr),
          ∃ (n290 : Nat),
          ∃ (c291 : Nat),
          v287 = Value.slice p289 n290 c291 ∧
           stepX G280 H279 H288 fun (G292 : FF) =>
           (ldSl ⟨r1, 1, none⟩ H288 fun (p293 : Option Addr) (n294 c295 : Nat) =>
           sameV (.slice p14 n15 c16) (.slice p293 n294 c295)) ∧
           newK (Obj.cells #[.slice p256 n257 c258] 29) H288 fun (r296 : Nat) (H297 : Heap) =>
           stepX G292 H288 H297 fun (G298 : FF) =>
            (ldSl ⟨r1, 1, none⟩ H297 fun (p299 : Option Addr) (n300 c301 : Nat) =>
            sameV (.slice p14 n15 c16) (.slice p299 n300 c301)) ∧
            appV Try.prog #[45, 45] 45 #[.slice p14 n15 c16, .slice (some ⟨r296, 0, none⟩) 1 1] H297
            fun (v302 : Value) (H303 : Heap) =>
            ∃ (p304 : Option Addr),
            ∃ (n305 : Nat),
             ∃ (c306 : Nat),
             v302 = Value.slice p304 n305 c306 ∧
             stepX G298 H297 H303 fun (G307 : FF) =>
             stV ⟨r1, 0, none⟩ (.slice p289 n290 c291) H303 fun (H308 : Heap) =>
              stepX G307 H303 H308 fun (G309 : FF) =>
              stV ⟨r1, 1, none⟩ (.slice p304 n305 c306) H308 fun (H310 : Heap) =>
              stepX G309 H308 H310 fun (G311 : FF) =>
              ∃ (m'312 : Nat), ltK m'312 m10 ∧ I4 m'312 (IntKind.wrap .i64 (n9 + 1)) G311 H310) ∧
         newK (Obj.cells #[.slice p256 n257 c258] 29) H279 fun (r313 : Nat) (H314 : Heap) =>
          stepX G280 H279 H314 fun (G315 : FF) =>
          (ldSl ⟨r1, 1, none⟩ H314 fun (p316 : Option Addr) (n317 c318 : Nat) =>
          sameV (.slice p14 n15 c16) (.slice p316 n317 c318)) ∧
          (ldSl ⟨r1, 0, none⟩ H314 fun (p319 : Option Addr) (n320 c321 : Nat) =>
           sameV (.slice p11 n12 c13) (.slice p319 n320 c321)) ∧
          appV Try.prog #[45, 45] 45 #[.slice p11 n12 c13, .slice (some ⟨r278, 0, none⟩) 1 1] H314
           fun (v322 : Value) (H323 : Heap) =>
           ∃ (p324 : Option Addr),
           ∃ (n325 : Nat),
           ∃ (c326 : Nat),
           v322 = Value.slice p324 n325 c326 ∧
            stepX G315 H314 H323 fun (G327 : FF) =>
            (ldSl ⟨r1, 1, none⟩ H323 fun (p328 : Option Addr) (n329 c330 : Nat) =>
            sameV (.slice p14 n15 c16) (.slice p328 n329 c330)) ∧
            appV Try.prog #[45, 45] 45 #[.slice p14 n15 c16, .slice (some ⟨r313, 0, none⟩) 1 1]
            H323 fun (v331 : Value) (H332 : Heap) =>
            ∃ (p333 : Option Addr),
             ∃ (n334 : Nat),
             ∃ (c335 : Nat),
             v331 = Value.slice p333 n334 c335 ∧
             stepX G327 H323 H332 fun (G336 : FF) =>
              stV ⟨r1, 0, none⟩ (.slice p324 n325 c326) H332 fun (H337 : Heap) =>
              stepX G336 H332 H337 fun (G338 : FF) =>
              stV ⟨r1, 1, none⟩ (.slice p333 n334 c335) H337 fun (H339 : Heap) =>
              stepX G338 H337 H339 fun (G340 : FF) =>
               ∃ (m'341 : Nat),
               ltK m'341 m10 ∧ I4 m'341 (IntKind.wrap .i64 (n9 + 1)) G340 H339) ∧
        newK (Obj.cells #[.slice p256 n257 c258] 29) H267 fun (r342 : Nat) (H343 : Heap) =>
        stepX G271 H267 H343 fun (G344 : FF) =>
         (ldSl ⟨r1, 1, none⟩ H343 fun (p345 : Option Addr) (n346 c347 : Nat) =>
         sameV (.slice p14 n15 c16) (.slice p345 n346 c347)) ∧
         (ldSl ⟨r1, 0, none⟩ H343 fun (p348 : Option Addr) (n349 c350 : Nat) =>
         sameV (.slice p11 n12 c13) (.slice p348 n349 c350)) ∧
         newK (Obj.cells #[.slice p268 n269 c270] 29) H343 fun (r351 : Nat) (H352 : Heap) =>
         stepX G344 H343 H352 fun (G353 : FF) =>
          (ldSl ⟨r1, 1, none⟩ H352 fun (p354 : Option Addr) (n355 c356 : Nat) =>
          sameV (.slice p14 n15 c16) (.slice p354 n355 c356)) ∧
          (ldSl ⟨r1, 0, none⟩ H352 fun (p357 : Option Addr) (n358 c359 : Nat) =>
          sameV (.slice p11 n12 c13) (.slice p357 n358 c359)) ∧
          appV Try.prog #[45, 45] 45 #[.slice p11 n12 c13, .slice (some ⟨r351, 0, none⟩) 1 1] H352
          fun (v360 : Value) (H361 : Heap) =>
          ∃ (p362 : Option Addr),
           ∃ (n363 : Nat),
           ∃ (c364 : Nat),
           v360 = Value.slice p362 n363 c364 ∧
           stepX G353 H352 H361 fun (G365 : FF) =>
            (ldSl ⟨r1, 1, none⟩ H361 fun (p366 : Option Addr) (n367 c368 : Nat) =>
            sameV (.slice p14 n15 c16) (.slice p366 n367 c368)) ∧
            appV Try.prog #[45, 45] 45 #[.slice p14 n15 c16, .slice (some ⟨r342, 0, none⟩) 1 1] H361
            fun (v369 : Value) (H370 : Heap) =>
            ∃ (p371 : Option Addr),
            ∃ (n372 : Nat),
             ∃ (c373 : Nat),
             v369 = Value.slice p371 n372 c373 ∧
             stepX G365 H361 H370 fun (G374 : FF) =>
             stV ⟨r1, 0, none⟩ (.slice p362 n363 c364) H370 fun (H375 : Heap) =>
              stepX G374 H370 H375 fun (G376 : FF) =>
              stV ⟨r1, 1, none⟩ (.slice p371 n372 c373) H375 fun (H377 : Heap) =>
              stepX G376 H375 H377 fun (G378 : FF) =>
              ∃ (m'379 : Nat), ltK m'379 m10 ∧ I4 m'379 (IntKind.wrap .i64 (n9 + 1)) G378 H377) ∧
      newK (Obj.cells #[.slice p256 n257 c258] 29) H255 fun (r380 : Nat) (H381 : Heap) =>
      stepX G259 H255 H381 fun (G382 : FF) =>
      (ldSl ⟨r1, 1, none⟩ H381 fun (p383 : Option Addr) (n384 c385 : Nat) => sameV (.slice p14 n15 c16) (.slice p383 n384 c385)) ∧
       (ldSl ⟨r1, 0, none⟩ H381 fun (p386 : Option Addr) (n387 c388 : Nat) => sameV (.slice p11 n12 c13) (.slice p386 n387 c388)) ∧
       msV Try.prog 29 (.int .i64 256) (.int .i64 256) H381 fun (v389 : Value) (H390 : Heap) =>
       ∃ (p391 : Option Addr),
       ∃ (n392 : Nat),
        ∃ (c393 : Nat),
        v389 = Value.slice p391 n392 c393 ∧
        stepX G382 H381 H390 fun (G394 : FF) =>
        (ldSl ⟨r1, 1, none⟩ H390 fun (p395 : Option Addr) (n396 c397 : Nat) =>
         sameV (.slice p14 n15 c16) (.slice p395 n396 c397)) ∧
         (ldSl ⟨r1, 0, none⟩ H390 fun (p398 : Option Addr) (n399 c400 : Nat) =>
         sameV (.slice p11 n12 c13) (.slice p398 n399 c400)) ∧
         newK (Obj.cells #[.slice p391 n392 c393] 29) H390 fun (r401 : Nat) (H402 : Heap) =>
         stepX G394 H390 H402 fun (G403 : FF) =>
         (ldSl ⟨r1, 1, none⟩ H402 fun (p404 : Option Addr) (n405 c406 : Nat) =>
          sameV (.slice p14 n15 c16) (.slice p404 n405 c406)) ∧
          (ldSl ⟨r1, 0, none⟩ H402 fun (p407 : Option Addr) (n408 c409 : Nat) =>
          sameV (.slice p11 n12 c13) (.slice p407 n408 c409)) ∧
          appV Try.prog #[45, 45] 45 #[.slice p11 n12 c13, .slice (some ⟨r401, 0, none⟩) 1 1] H402
          fun (v410 : Value) (H411 : Heap) =>
          ∃ (p412 : Option Addr),
          ∃ (n413 : Nat),
           ∃ (c414 : Nat),
           v410 = Value.slice p412 n413 c414 ∧
           stepX G403 H402 H411 fun (G415 : FF) =>
           (ldSl ⟨r1, 1, none⟩ H411 fun (p416 : Option Addr) (n417 c418 : Nat) =>
            sameV (.slice p14 n15 c16) (.slice p416 n417 c418)) ∧
            appV Try.prog #[45, 45] 45 #[.slice p14 n15 c16, .slice (some ⟨r380, 0, none⟩) 1 1] H411
            fun (v419 : Value) (H420 : Heap) =>
            ∃ (p421 : Option Addr),
            ∃ (n422 : Nat),
            ∃ (c423 : Nat),
             v419 = Value.slice p421 n422 c423 ∧
             stepX G415 H411 H420 fun (G424 : FF) =>
             stV ⟨r1, 0, none⟩ (.slice p412 n413 c414) H420 fun (H425 : Heap) =>
             stepX G424 H420 H425 fun (G426 : FF) =>
              stV ⟨r1, 1, none⟩ (.slice p421 n422 c423) H425 fun (H427 : Heap) =>
              stepX G426 H425 H427 fun (G428 : FF) =>
              ∃ (m'429 : Nat), ltK m'429 m10 ∧ I4 m'429 (IntKind.wrap .i64 (n9 + 1)) G428 H427)
   (R (some ⟨r1, 0, none⟩) G7 H8)) :
  HX Try.prog F.disk_New [.ptr] #[.int .i64 n] G H R :=
  fnX_sound { loop := fun | 0 => [(9, .int .i64)] | _ => [] } Try.func16 (c := bodyOf Try.f16) rfl rfl (cast (by kernel_rfl) h)
set_option maxRecDepth 100000 in
/-- disk.Disk.Blocks -/
theorem diskBlocks_vc (d : Option Addr) (G : FF) (H : Heap) (R : FX [.int .i64]) (h :
 br (Option.isNone d) (R 0 G H) (ptrK d fun (b1 o2 : Nat) => ldSl ⟨b1, o2, none⟩ H fun (p3 : Option Addr) (n4 c5 : Nat) => R (↑n4 : Int) G H)) :
  HX Try.prog F.disk_Disk_Blocks [.int .i64] #[.pointer d] G H R :=
  fnX_sound {  } Try.func29 (c := bodyOf Try.f29) rfl rfl (cast (by kernel_rfl) h)
set_option maxRecDepth 100000 in
/-- disk.Disk.has -/
theorem diskHas_vc (d : Option Addr) (n : Int) (G : FF) (H : Heap) (R : FX [.bool]) (h :
 br (decide (n ≥ 0)) (HX Try.prog F.disk_Disk_Blocks [.int .i64] #[.pointer d] G H fun (n1 : Int) (G2 : FF) (H3 : Heap) => R (decide (n < n1)) G2 H3) (R false G H)) :
  HX Try.prog F.disk_Disk_has [.bool] #[.pointer d, .int .i64 n] G H R :=
  fnX_sound {  } Try.func45 (c := bodyOf Try.f45) rfl rfl (cast (by kernel_rfl) h)
set_option maxRecDepth 100000 in
/-- disk.Disk.change -/
theorem diskChange_vc (d : Option Addr) (G : FF) (H : Heap) (R : FX [.int .i64]) (h :
 ptrK d fun (b1 o2 : Nat) =>
 ldBool ⟨b1, o2 + 4, none⟩ H fun (b3 : Bool) =>
 br b3
 (ptrK d fun (b4 o5 : Nat) =>
  stV ⟨b4, o5 + 4, none⟩ (.bool true) H fun (H6 : Heap) =>
  stepX G H H6 fun (G7 : FF) =>
  ptrK d fun (b8 o9 : Nat) =>
  ldBool ⟨b8, o9 + 4, none⟩ H6 fun (b10 : Bool) =>
   br b10 (R 2 G7 H6)
   (ptrK d fun (b11 o12 : Nat) =>
   ldInt .i64 ⟨b11, o12 + 3, none⟩ H6 fun (n13 : Int) =>
   ptrK d fun (b14 o15 : Nat) =>
    stV ⟨b14, o15 + 3, none⟩ (.int .i64 (if -1 > IntKind.wrap .i64 (n13 - 1) then -1 else IntKind.wrap .i64 (n13 - 1))) H6 fun (H16 : Heap) =>
    stepX G7 H6 H16 fun (G17 : FF) => R 0 G17 H16))
 (ptrK d fun (b18 o19 : Nat) =>
  ldInt .i64 ⟨b18, o19 + 3, none⟩ H fun (n20 : Int) =>
  ptrK d fun (b21 o22 : Nat) =>
  stV ⟨b21, o22 + 4, none⟩ (.bool (n20 == 0)) H fun (H23 : Heap) =>
  stepX G H H23 fun (G24 : FF) =>
   ptrK d fun (b25 o26 : Nat) =>
   ldBool ⟨b25, o26 + 4, none⟩ H23 fun (b27 : Bool) =>
   br b27 (R 2 G24 H23)
   (ptrK d fun (b28 o29 : Nat) =>
    ldInt .i64 ⟨b28, o29 + 3, none⟩ H23 fun (n30 : Int) =>
    ptrK d fun (b31 o32 : Nat) =>
    stV ⟨b31, o32 + 3, none⟩ (.int .i64 (if -1 > IntKind.wrap .i64 (n30 - 1) then -1 else IntKind.wrap .i64 (n30 - 1))) H23
    fun (H33 : Heap) => stepX G24 H23 H33 fun (G34 : FF) => R 0 G34 H33))) :
  HX Try.prog F.disk_Disk_change [.int .i64] #[.pointer d] G H R :=
  fnX_sound {  } Try.func55 (c := bodyOf Try.f55) rfl rfl (cast (by kernel_rfl) h)
set_option maxRecDepth 100000 in
/-- disk.Disk.Read -/
theorem diskRead_vc (d : Option Addr) (n : Int) (G : FF) (H : Heap) (R : FX [.sl, .int .i64]) (h :
 HX Try.prog F.disk_Disk_has [.bool] #[.pointer d, .int .i64 n] G H fun (b1 : Bool) (G2 : FF) (H3 : Heap) =>
 br (!b1) (R none 0 0 1 G2 H3)
 (ptrK d fun (b4 o5 : Nat) =>
 ldBool ⟨b4, o5 + 4, none⟩ H3 fun (b6 : Bool) =>
  br b6 (R none 0 0 2 G2 H3)
  (ptrK d fun (b7 o8 : Nat) =>
  ldSl ⟨b7, o8, none⟩ H3 fun (p9 : Option Addr) (n10 c11 : Nat) =>
  chk (0 ≤ n ∧ n < (↑n10 : Int))
   (ptrK p9 fun (b12 o13 : Nat) =>
   ldSl ⟨b12, o13 + Int.toNat n * 1, none⟩ H3 fun (p14 : Option Addr) (n15 c16 : Nat) =>
   HX Try.prog F.slices_Clone_Sbyte_byte [.sl] #[.slice p14 n15 c16] G2 H3 fun (p17 : Option Addr) (n18 c19 : Nat) (G20 : FF) (H21 : Heap) => R p17 n18 c19 0 G20 H21)))) :
  HX Try.prog F.disk_Disk_Read [.sl, .int .i64] #[.pointer d, .int .i64 n] G H R :=
  fnX_sound {  } Try.func27 (c := bodyOf Try.f27) rfl rfl (cast (by kernel_rfl) h)
set_option maxRecDepth 100000 in
/-- disk.Disk.Write -/
theorem diskWrite_vc (d : Option Addr) (k : Int) (p : Option Addr) (n c : Nat) (G : FF) (H : Heap) (R : FX [.int .i64]) (h :
 HX Try.prog F.disk_Disk_has [.bool] #[.pointer d, .int .i64 k] G H fun (b1 : Bool) (G2 : FF) (H3 : Heap) =>
 br (!b1) (R 1 G2 H3)
 (br ((↑n : Int) != 256) (R 1 G2 H3)
 (HX Try.prog F.disk_Disk_change [.int .i64] #[.pointer d] G2 H3 fun (n4 : Int) (G5 : FF) (H6 : Heap) =>
  br (n4 != 0) (R n4 G5 H6)
  (ptrK d fun (b7 o8 : Nat) =>
  ldSl ⟨b7, o8, none⟩ H6 fun (p9 : Option Addr) (n10 c11 : Nat) =>
  HX Try.prog F.slices_Clone_Sbyte_byte [.sl] #[.slice p n c] G5 H6 fun (p12 : Option Addr) (n13 c14 : Nat) (G15 : FF) (H16 : Heap) =>
   (ldSl ⟨b7, o8, none⟩ H16 fun (p17 : Option Addr) (n18 c19 : Nat) => sameV (.slice p9 n10 c11) (.slice p17 n18 c19)) ∧
   chk (0 ≤ k ∧ k < (↑n10 : Int))
   (ptrK p9 fun (b20 o21 : Nat) =>
   stV ⟨b20, o21 + Int.toNat k * 1, none⟩ (.slice p12 n13 c14) H16 fun (H22 : Heap) =>
    stepX G15 H16 H22 fun (G23 : FF) =>
    ptrK d fun (b24 o25 : Nat) =>
    ldSl ⟨b24, o25 + 2, none⟩ H22 fun (p26 : Option Addr) (n27 c28 : Nat) =>
    ptrK d fun (b29 o30 : Nat) =>
     ldSl ⟨b29, o30, none⟩ H22 fun (p31 : Option Addr) (n32 c33 : Nat) =>
     chk (0 ≤ k ∧ k < (↑n32 : Int))
     (ptrK p31 fun (b34 o35 : Nat) =>
     ldSl ⟨b34, o35 + Int.toNat k * 1, none⟩ H22 fun (p36 : Option Addr) (n37 c38 : Nat) =>
      newK (Obj.cells #[.int .i64 k, .slice p36 n37 c38] 88) H22 fun (r39 : Nat) (H40 : Heap) =>
      stepX G23 H22 H40 fun (G41 : FF) =>
      (ldSl ⟨b24, o25 + 2, none⟩ H40 fun (p42 : Option Addr) (n43 c44 : Nat) => sameV (.slice p26 n27 c28) (.slice p42 n43 c44)) ∧
      appV Try.prog #[66, 66] 66 #[.slice p26 n27 c28, .slice (some ⟨r39, 0, none⟩) 1 1] H40 fun (v45 : Value) (H46 : Heap) =>
       ∃ (p47 : Option Addr),
       ∃ (n48 : Nat),
       ∃ (c49 : Nat),
       v45 = Value.slice p47 n48 c49 ∧
        stepX G41 H40 H46 fun (G50 : FF) =>
        ptrK d fun (b51 o52 : Nat) =>
        stV ⟨b51, o52 + 2, none⟩ (.slice p47 n48 c49) H46 fun (H53 : Heap) => stepX G50 H46 H53 fun (G54 : FF) => R 0 G54 H53)))))) :
  HX Try.prog F.disk_Disk_Write [.int .i64] #[.pointer d, .int .i64 k, .slice p n c] G H R :=
  fnX_sound {  } Try.func54 (c := bodyOf Try.f54) rfl rfl (cast (by kernel_rfl) h)
set_option maxRecDepth 100000 in
/-- disk.Disk.Flush -/
theorem diskFlush_vc (d : Option Addr) (G : FF) (H : Heap) (R : FX [.int .i64]) (h :
 br (Option.isNone d) (R 1 G H)
 (HX Try.prog F.disk_Disk_change [.int .i64] #[.pointer d] G H fun (n1 : Int) (G2 : FF) (H3 : Heap) =>
 br (n1 == 0)
 (ptrK d fun (b4 o5 : Nat) =>
  ldSl ⟨b4, o5, none⟩ H3 fun (p6 : Option Addr) (n7 c8 : Nat) =>
  HX Try.prog F.slices_Clone_SSbyte_Sbyte [.sl] #[.slice p6 n7 c8] G2 H3 fun (p9 : Option Addr) (n10 c11 : Nat) (G12 : FF) (H13 : Heap) =>
  ptrK d fun (b14 o15 : Nat) =>
  stV ⟨b14, o15 + 1, none⟩ (.slice p9 n10 c11) H13 fun (H16 : Heap) =>
   stepX G12 H13 H16 fun (G17 : FF) =>
   ptrK d fun (b18 o19 : Nat) => stV ⟨b18, o19 + 2, none⟩ (.slice none 0 0) H16 fun (H20 : Heap) => stepX G17 H16 H20 fun (G21 : FF) => R n1 G21 H20)
 (R n1 G2 H3))) :
  HX Try.prog F.disk_Disk_Flush [.int .i64] #[.pointer d] G H R :=
  fnX_sound {  } Try.func43 (c := bodyOf Try.f43) rfl rfl (cast (by kernel_rfl) h)
set_option maxRecDepth 100000 in
/-- slices.Clone[[][]byte,[]byte] -/
theorem cloneBB_vc (p : Option Addr) (n c : Nat) (G : FF) (H : Heap) (R : FX [.sl]) (h :
 br (Option.isNone p) (R none 0 0 G H)
 (newK (Obj.cells #[] 29) H fun (r1 : Nat) (H2 : Heap) =>
 stepX G H H2 fun (G3 : FF) =>
 appV Try.prog #[45, 45] 45 #[.slice (some ⟨r1, 0, none⟩) 0 0, .slice p n c] H2 fun (v4 : Value) (H5 : Heap) =>
  ∃ (p6 : Option Addr), ∃ (n7 : Nat), ∃ (c8 : Nat), v4 = Value.slice p6 n7 c8 ∧ stepX G3 H2 H5 fun (G9 : FF) => R p6 n7 c8 G9 H5)) :
  HX Try.prog F.slices_Clone_SSbyte_Sbyte [.sl] #[.slice p n c] G H R :=
  fnX_sound {  } Try.func50 (c := bodyOf Try.f50) rfl rfl (cast (by kernel_rfl) h)
end Go.Proofs.Ash
