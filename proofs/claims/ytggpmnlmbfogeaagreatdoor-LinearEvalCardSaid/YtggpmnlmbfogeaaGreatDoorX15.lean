/-
  A part of the proof that the law's function returns true and leaves its arguments as they were, for every input (no condition): own lemmas of the proof, in the order of their use.
-/
import Derived.Test.YtggpmnlmbfogeaaGreatDoorX11
import Derived.Test.YtggpmnlmbfogeaaGreatDoorX13
import Derived.Test.YtggpmnlmbfogeaaGreatDoorX14
set_option linter.all false
namespace Go.PE
open Go.RowKit Go.Proofs.Tryz
def keepF (f : Nat) : List Nat := (bif Nat.blt f 170 then (bif Nat.blt f 86 then (bif Nat.blt f 44 then (bif Nat.blt f 23 then (bif Nat.blt f 13 then (bif Nat.blt f 8 then (bif Nat.blt f 5 then (bif Nat.blt f 4 then (bif Nat.beq f 3 then [6] else []) else (bif Nat.beq f 4 then [4] else [])) else (bif Nat.blt f 6 then (bif Nat.beq f 5 then [4] else []) else (bif Nat.blt f 7 then (bif Nat.beq f 6 then [8] else []) else (bif Nat.beq f 7 then [12] else [])))) else (bif Nat.blt f 10 then (bif Nat.blt f 9 then (bif Nat.beq f 8 then [6] else []) else (bif Nat.beq f 9 then [8, 2000010] else [])) else (bif Nat.blt f 11 then (bif Nat.beq f 10 then [4] else []) else (bif Nat.blt f 12 then (bif Nat.beq f 11 then [4] else []) else (bif Nat.beq f 12 then [8] else []))))) else (bif Nat.blt f 18 then (bif Nat.blt f 15 then (bif Nat.blt f 14 then (bif Nat.beq f 13 then [4] else []) else (bif Nat.beq f 14 then [4] else [])) else (bif Nat.blt f 16 then (bif Nat.beq f 15 then [4] else []) else (bif Nat.blt f 17 then (bif Nat.beq f 16 then [4] else []) else (bif Nat.beq f 17 then [2] else [])))) else (bif Nat.blt f 20 then (bif Nat.blt f 19 then (bif Nat.beq f 18 then [0] else []) else (bif Nat.beq f 19 then [2] else [])) else (bif Nat.blt f 21 then (bif Nat.beq f 20 then [2] else []) else (bif Nat.blt f 22 then (bif Nat.beq f 21 then [4] else []) else (bif Nat.beq f 22 then [2] else [])))))) else (bif Nat.blt f 33 then (bif Nat.blt f 28 then (bif Nat.blt f 25 then (bif Nat.blt f 24 then (bif Nat.beq f 23 then [2] else []) else (bif Nat.beq f 24 then [2] else [])) else (bif Nat.blt f 26 then (bif Nat.beq f 25 then [2] else []) else (bif Nat.blt f 27 then (bif Nat.beq f 26 then [2, 3] else []) else (bif Nat.beq f 27 then [2, 3] else [])))) else (bif Nat.blt f 30 then (bif Nat.blt f 29 then (bif Nat.beq f 28 then [4] else []) else (bif Nat.beq f 29 then [4] else [])) else (bif Nat.blt f 31 then (bif Nat.beq f 30 then [2] else []) else (bif Nat.blt f 32 then (bif Nat.beq f 31 then [4] else []) else (bif Nat.beq f 32 then [4, 5] else []))))) else (bif Nat.blt f 38 then (bif Nat.blt f 35 then (bif Nat.blt f 34 then (bif Nat.beq f 33 then [4] else []) else (bif Nat.beq f 34 then [2] else [])) else (bif Nat.blt f 36 then (bif Nat.beq f 35 then [2] else []) else (bif Nat.blt f 37 then (bif Nat.beq f 36 then [4, 5] else []) else (bif Nat.beq f 37 then [4] else [])))) else (bif Nat.blt f 41 then (bif Nat.blt f 39 then (bif Nat.beq f 38 then [4, 5] else []) else (bif Nat.blt f 40 then (bif Nat.beq f 39 then [4, 5] else []) else (bif Nat.beq f 40 then [6, 7] else []))) else (bif Nat.blt f 42 then (bif Nat.beq f 41 then [6, 7] else []) else (bif Nat.blt f 43 then (bif Nat.beq f 42 then [4, 5] else []) else (bif Nat.beq f 43 then [4, 5] else []))))))) else (bif Nat.blt f 65 then (bif Nat.blt f 54 then (bif Nat.blt f 49 then (bif Nat.blt f 46 then (bif Nat.blt f 45 then (bif Nat.beq f 44 then [4] else []) else (bif Nat.beq f 45 then [4, 5] else [])) else (bif Nat.blt f 47 then (bif Nat.beq f 46 then [4, 5] else []) else (bif Nat.blt f 48 then (bif Nat.beq f 47 then [4, 5] else []) else (bif Nat.beq f 48 then [4, 5] else [])))) else (bif Nat.blt f 51 then (bif Nat.blt f 50 then (bif Nat.beq f 49 then [4, 5] else []) else (bif Nat.beq f 50 then [2, 3] else [])) else (bif Nat.blt f 52 then (bif Nat.beq f 51 then [2, 3] else []) else (bif Nat.blt f 53 then (bif Nat.beq f 52 then [2] else []) else (bif Nat.beq f 53 then [4] else []))))) else (bif Nat.blt f 59 then (bif Nat.blt f 56 then (bif Nat.blt f 55 then (bif Nat.beq f 54 then [8] else []) else (bif Nat.beq f 55 then [4] else [])) else (bif Nat.blt f 57 then (bif Nat.beq f 56 then [0] else []) else (bif Nat.blt f 58 then (bif Nat.beq f 57 then [4] else []) else (bif Nat.beq f 58 then [2, 3] else [])))) else (bif Nat.blt f 62 then (bif Nat.blt f 60 then (bif Nat.beq f 59 then [2, 3] else []) else (bif Nat.blt f 61 then (bif Nat.beq f 60 then [6, 7] else []) else (bif Nat.beq f 61 then [2, 3] else []))) else (bif Nat.blt f 63 then (bif Nat.beq f 62 then [2, 3] else []) else (bif Nat.blt f 64 then (bif Nat.beq f 63 then [4] else []) else (bif Nat.beq f 64 then [2] else [])))))) else (bif Nat.blt f 75 then (bif Nat.blt f 70 then (bif Nat.blt f 67 then (bif Nat.blt f 66 then (bif Nat.beq f 65 then [2, 3] else []) else (bif Nat.beq f 66 then [2, 3] else [])) else (bif Nat.blt f 68 then (bif Nat.beq f 67 then [6] else []) else (bif Nat.blt f 69 then (bif Nat.beq f 68 then [2, 3] else []) else (bif Nat.beq f 69 then [2, 3] else [])))) else (bif Nat.blt f 72 then (bif Nat.blt f 71 then (bif Nat.beq f 70 then [2] else []) else (bif Nat.beq f 71 then [2] else [])) else (bif Nat.blt f 73 then (bif Nat.beq f 72 then [2] else []) else (bif Nat.blt f 74 then (bif Nat.beq f 73 then [2] else []) else (bif Nat.beq f 74 then [2] else []))))) else (bif Nat.blt f 80 then (bif Nat.blt f 77 then (bif Nat.blt f 76 then (bif Nat.beq f 75 then [2] else []) else (bif Nat.beq f 76 then [2] else [])) else (bif Nat.blt f 78 then (bif Nat.beq f 77 then [2] else []) else (bif Nat.blt f 79 then (bif Nat.beq f 78 then [4] else []) else (bif Nat.beq f 79 then [4] else [])))) else (bif Nat.blt f 83 then (bif Nat.blt f 81 then (bif Nat.beq f 80 then [2] else []) else (bif Nat.blt f 82 then (bif Nat.beq f 81 then [2] else []) else (bif Nat.beq f 82 then [4] else []))) else (bif Nat.blt f 84 then (bif Nat.beq f 83 then [2] else []) else (bif Nat.blt f 85 then (bif Nat.beq f 84 then [2] else []) else (bif Nat.beq f 85 then [2] else [])))))))) else (bif Nat.blt f 128 then (bif Nat.blt f 107 then (bif Nat.blt f 96 then (bif Nat.blt f 91 then (bif Nat.blt f 88 then (bif Nat.blt f 87 then (bif Nat.beq f 86 then [4] else []) else (bif Nat.beq f 87 then [4] else [])) else (bif Nat.blt f 89 then (bif Nat.beq f 88 then [2] else []) else (bif Nat.blt f 90 then (bif Nat.beq f 89 then [4] else []) else (bif Nat.beq f 90 then [4] else [])))) else (bif Nat.blt f 93 then (bif Nat.blt f 92 then (bif Nat.beq f 91 then [2] else []) else (bif Nat.beq f 92 then [4] else [])) else (bif Nat.blt f 94 then (bif Nat.beq f 93 then [2] else []) else (bif Nat.blt f 95 then (bif Nat.beq f 94 then [4] else []) else (bif Nat.beq f 95 then [2] else []))))) else (bif Nat.blt f 101 then (bif Nat.blt f 98 then (bif Nat.blt f 97 then (bif Nat.beq f 96 then [2, 3] else []) else (bif Nat.beq f 97 then [6] else [])) else (bif Nat.blt f 99 then (bif Nat.beq f 98 then [4] else []) else (bif Nat.blt f 100 then (bif Nat.beq f 99 then [2] else []) else (bif Nat.beq f 100 then [8] else [])))) else (bif Nat.blt f 104 then (bif Nat.blt f 102 then (bif Nat.beq f 101 then [4] else []) else (bif Nat.blt f 103 then (bif Nat.beq f 102 then [4] else []) else (bif Nat.beq f 103 then [4] else []))) else (bif Nat.blt f 105 then (bif Nat.beq f 104 then [4] else []) else (bif Nat.blt f 106 then (bif Nat.beq f 105 then [2] else []) else (bif Nat.beq f 106 then [4, 5] else [])))))) else (bif Nat.blt f 117 then (bif Nat.blt f 112 then (bif Nat.blt f 109 then (bif Nat.blt f 108 then (bif Nat.beq f 107 then [2] else []) else (bif Nat.beq f 108 then [2] else [])) else (bif Nat.blt f 110 then (bif Nat.beq f 109 then [4] else []) else (bif Nat.blt f 111 then (bif Nat.beq f 110 then [4] else []) else (bif Nat.beq f 111 then [4, 5] else [])))) else (bif Nat.blt f 114 then (bif Nat.blt f 113 then (bif Nat.beq f 112 then [4] else []) else (bif Nat.beq f 113 then [4] else [])) else (bif Nat.blt f 115 then (bif Nat.beq f 114 then [4] else []) else (bif Nat.blt f 116 then (bif Nat.beq f 115 then [2] else []) else (bif Nat.beq f 116 then [2] else []))))) else (bif Nat.blt f 122 then (bif Nat.blt f 119 then (bif Nat.blt f 118 then (bif Nat.beq f 117 then [4] else []) else (bif Nat.beq f 118 then [4] else [])) else (bif Nat.blt f 120 then (bif Nat.beq f 119 then [2] else []) else (bif Nat.blt f 121 then (bif Nat.beq f 120 then [2] else []) else (bif Nat.beq f 121 then [4] else [])))) else (bif Nat.blt f 125 then (bif Nat.blt f 123 then (bif Nat.beq f 122 then [3] else []) else (bif Nat.blt f 124 then (bif Nat.beq f 123 then [2] else []) else (bif Nat.beq f 124 then [4] else []))) else (bif Nat.blt f 126 then (bif Nat.beq f 125 then [4] else []) else (bif Nat.blt f 127 then (bif Nat.beq f 126 then [4] else []) else (bif Nat.beq f 127 then [2] else []))))))) else (bif Nat.blt f 149 then (bif Nat.blt f 138 then (bif Nat.blt f 133 then (bif Nat.blt f 130 then (bif Nat.blt f 129 then (bif Nat.beq f 128 then [2, 3] else []) else (bif Nat.beq f 129 then [4] else [])) else (bif Nat.blt f 131 then (bif Nat.beq f 130 then [6] else []) else (bif Nat.blt f 132 then (bif Nat.beq f 131 then [6] else []) else (bif Nat.beq f 132 then [4] else [])))) else (bif Nat.blt f 135 then (bif Nat.blt f 134 then (bif Nat.beq f 133 then [8] else []) else (bif Nat.beq f 134 then [8] else [])) else (bif Nat.blt f 136 then (bif Nat.beq f 135 then [4] else []) else (bif Nat.blt f 137 then (bif Nat.beq f 136 then [4] else []) else (bif Nat.beq f 137 then [2] else []))))) else (bif Nat.blt f 143 then (bif Nat.blt f 140 then (bif Nat.blt f 139 then (bif Nat.beq f 138 then [4] else []) else (bif Nat.beq f 139 then [2] else [])) else (bif Nat.blt f 141 then (bif Nat.beq f 140 then [2] else []) else (bif Nat.blt f 142 then (bif Nat.beq f 141 then [2] else []) else (bif Nat.beq f 142 then [6, 7] else [])))) else (bif Nat.blt f 146 then (bif Nat.blt f 144 then (bif Nat.beq f 143 then [2] else []) else (bif Nat.blt f 145 then (bif Nat.beq f 144 then [2] else []) else (bif Nat.beq f 145 then [4, 5, 6] else []))) else (bif Nat.blt f 147 then (bif Nat.beq f 146 then [2] else []) else (bif Nat.blt f 148 then (bif Nat.beq f 147 then [4] else []) else (bif Nat.beq f 148 then [6] else [])))))) else (bif Nat.blt f 159 then (bif Nat.blt f 154 then (bif Nat.blt f 151 then (bif Nat.blt f 150 then (bif Nat.beq f 149 then [4] else []) else (bif Nat.beq f 150 then [4] else [])) else (bif Nat.blt f 152 then (bif Nat.beq f 151 then [4] else []) else (bif Nat.blt f 153 then (bif Nat.beq f 152 then [2] else []) else (bif Nat.beq f 153 then [2] else [])))) else (bif Nat.blt f 156 then (bif Nat.blt f 155 then (bif Nat.beq f 154 then [2] else []) else (bif Nat.beq f 155 then [8, 9] else [])) else (bif Nat.blt f 157 then (bif Nat.beq f 156 then [6, 7] else []) else (bif Nat.blt f 158 then (bif Nat.beq f 157 then [2] else []) else (bif Nat.beq f 158 then [6, 7] else []))))) else (bif Nat.blt f 164 then (bif Nat.blt f 161 then (bif Nat.blt f 160 then (bif Nat.beq f 159 then [4] else []) else (bif Nat.beq f 160 then [2, 3] else [])) else (bif Nat.blt f 162 then (bif Nat.beq f 161 then [4, 5] else []) else (bif Nat.blt f 163 then (bif Nat.beq f 162 then [2, 3] else []) else (bif Nat.beq f 163 then [2, 3] else [])))) else (bif Nat.blt f 167 then (bif Nat.blt f 165 then (bif Nat.beq f 164 then [2, 3, 1000000] else []) else (bif Nat.blt f 166 then (bif Nat.beq f 165 then [2] else []) else (bif Nat.beq f 166 then [2] else []))) else (bif Nat.blt f 168 then (bif Nat.beq f 167 then [4] else []) else (bif Nat.blt f 169 then (bif Nat.beq f 168 then [0] else []) else (bif Nat.beq f 169 then [2] else []))))))))) else (bif Nat.blt f 253 then (bif Nat.blt f 211 then (bif Nat.blt f 190 then (bif Nat.blt f 180 then (bif Nat.blt f 175 then (bif Nat.blt f 172 then (bif Nat.blt f 171 then (bif Nat.beq f 170 then [2] else []) else (bif Nat.beq f 171 then [4] else [])) else (bif Nat.blt f 173 then (bif Nat.beq f 172 then [4] else []) else (bif Nat.blt f 174 then (bif Nat.beq f 173 then [4] else []) else (bif Nat.beq f 174 then [4] else [])))) else (bif Nat.blt f 177 then (bif Nat.blt f 176 then (bif Nat.beq f 175 then [2] else []) else (bif Nat.beq f 176 then [4] else [])) else (bif Nat.blt f 178 then (bif Nat.beq f 177 then [4] else []) else (bif Nat.blt f 179 then (bif Nat.beq f 178 then [2] else []) else (bif Nat.beq f 179 then [4] else []))))) else (bif Nat.blt f 185 then (bif Nat.blt f 182 then (bif Nat.blt f 181 then (bif Nat.beq f 180 then [4] else []) else (bif Nat.beq f 181 then [4] else [])) else (bif Nat.blt f 183 then (bif Nat.beq f 182 then [4] else []) else (bif Nat.blt f 184 then (bif Nat.beq f 183 then [4, 5] else []) else (bif Nat.beq f 184 then [2] else [])))) else (bif Nat.blt f 187 then (bif Nat.blt f 186 then (bif Nat.beq f 185 then [2] else []) else (bif Nat.beq f 186 then [4] else [])) else (bif Nat.blt f 188 then (bif Nat.beq f 187 then [4] else []) else (bif Nat.blt f 189 then (bif Nat.beq f 188 then [6] else []) else (bif Nat.beq f 189 then [4] else [])))))) else (bif Nat.blt f 200 then (bif Nat.blt f 195 then (bif Nat.blt f 192 then (bif Nat.blt f 191 then (bif Nat.beq f 190 then [2] else []) else (bif Nat.beq f 191 then [2] else [])) else (bif Nat.blt f 193 then (bif Nat.beq f 192 then [4, 5] else []) else (bif Nat.blt f 194 then (bif Nat.beq f 193 then [4] else []) else (bif Nat.beq f 194 then [4] else [])))) else (bif Nat.blt f 197 then (bif Nat.blt f 196 then (bif Nat.beq f 195 then [4] else []) else (bif Nat.beq f 196 then [2] else [])) else (bif Nat.blt f 198 then (bif Nat.beq f 197 then [2] else []) else (bif Nat.blt f 199 then (bif Nat.beq f 198 then [2] else []) else (bif Nat.beq f 199 then [4] else []))))) else (bif Nat.blt f 205 then (bif Nat.blt f 202 then (bif Nat.blt f 201 then (bif Nat.beq f 200 then [4] else []) else (bif Nat.beq f 201 then [4] else [])) else (bif Nat.blt f 203 then (bif Nat.beq f 202 then [2] else []) else (bif Nat.blt f 204 then (bif Nat.beq f 203 then [6, 7] else []) else (bif Nat.beq f 204 then [6] else [])))) else (bif Nat.blt f 208 then (bif Nat.blt f 206 then (bif Nat.beq f 205 then [4] else []) else (bif Nat.blt f 207 then (bif Nat.beq f 206 then [2, 3] else []) else (bif Nat.beq f 207 then [] else []))) else (bif Nat.blt f 209 then (bif Nat.beq f 208 then [4] else []) else (bif Nat.blt f 210 then (bif Nat.beq f 209 then [4] else []) else (bif Nat.beq f 210 then [6, 7] else []))))))) else (bif Nat.blt f 232 then (bif Nat.blt f 221 then (bif Nat.blt f 216 then (bif Nat.blt f 213 then (bif Nat.blt f 212 then (bif Nat.beq f 211 then [2] else []) else (bif Nat.beq f 212 then [6, 7] else [])) else (bif Nat.blt f 214 then (bif Nat.beq f 213 then [] else []) else (bif Nat.blt f 215 then (bif Nat.beq f 214 then [] else []) else (bif Nat.beq f 215 then [4] else [])))) else (bif Nat.blt f 218 then (bif Nat.blt f 217 then (bif Nat.beq f 216 then [4] else []) else (bif Nat.beq f 217 then [2] else [])) else (bif Nat.blt f 219 then (bif Nat.beq f 218 then [4] else []) else (bif Nat.blt f 220 then (bif Nat.beq f 219 then [2] else []) else (bif Nat.beq f 220 then [4, 5] else []))))) else (bif Nat.blt f 226 then (bif Nat.blt f 223 then (bif Nat.blt f 222 then (bif Nat.beq f 221 then [4] else []) else (bif Nat.beq f 222 then [4] else [])) else (bif Nat.blt f 224 then (bif Nat.beq f 223 then [2] else []) else (bif Nat.blt f 225 then (bif Nat.beq f 224 then [4] else []) else (bif Nat.beq f 225 then [4] else [])))) else (bif Nat.blt f 229 then (bif Nat.blt f 227 then (bif Nat.beq f 226 then [2, 3] else []) else (bif Nat.blt f 228 then (bif Nat.beq f 227 then [2, 3, 4] else []) else (bif Nat.beq f 228 then [2] else []))) else (bif Nat.blt f 230 then (bif Nat.beq f 229 then [4, 5, 6] else []) else (bif Nat.blt f 231 then (bif Nat.beq f 230 then [6, 7] else []) else (bif Nat.beq f 231 then [2] else [])))))) else (bif Nat.blt f 242 then (bif Nat.blt f 237 then (bif Nat.blt f 234 then (bif Nat.blt f 233 then (bif Nat.beq f 232 then [4] else []) else (bif Nat.beq f 233 then [2] else [])) else (bif Nat.blt f 235 then (bif Nat.beq f 234 then [4, 5] else []) else (bif Nat.blt f 236 then (bif Nat.beq f 235 then [4] else []) else (bif Nat.beq f 236 then [2] else [])))) else (bif Nat.blt f 239 then (bif Nat.blt f 238 then (bif Nat.beq f 237 then [4] else []) else (bif Nat.beq f 238 then [4, 5] else [])) else (bif Nat.blt f 240 then (bif Nat.beq f 239 then [2] else []) else (bif Nat.blt f 241 then (bif Nat.beq f 240 then [4, 5] else []) else (bif Nat.beq f 241 then [4] else []))))) else (bif Nat.blt f 247 then (bif Nat.blt f 244 then (bif Nat.blt f 243 then (bif Nat.beq f 242 then [2] else []) else (bif Nat.beq f 243 then [2] else [])) else (bif Nat.blt f 245 then (bif Nat.beq f 244 then [4] else []) else (bif Nat.blt f 246 then (bif Nat.beq f 245 then [4] else []) else (bif Nat.beq f 246 then [4] else [])))) else (bif Nat.blt f 250 then (bif Nat.blt f 248 then (bif Nat.beq f 247 then [] else []) else (bif Nat.blt f 249 then (bif Nat.beq f 248 then [2] else []) else (bif Nat.beq f 249 then [2] else []))) else (bif Nat.blt f 251 then (bif Nat.beq f 250 then [2] else []) else (bif Nat.blt f 252 then (bif Nat.beq f 251 then [4] else []) else (bif Nat.beq f 252 then [6] else [])))))))) else (bif Nat.blt f 295 then (bif Nat.blt f 274 then (bif Nat.blt f 263 then (bif Nat.blt f 258 then (bif Nat.blt f 255 then (bif Nat.blt f 254 then (bif Nat.beq f 253 then [4] else []) else (bif Nat.beq f 254 then [4] else [])) else (bif Nat.blt f 256 then (bif Nat.beq f 255 then [2] else []) else (bif Nat.blt f 257 then (bif Nat.beq f 256 then [6, 7] else []) else (bif Nat.beq f 257 then [4] else [])))) else (bif Nat.blt f 260 then (bif Nat.blt f 259 then (bif Nat.beq f 258 then [4] else []) else (bif Nat.beq f 259 then [4] else [])) else (bif Nat.blt f 261 then (bif Nat.beq f 260 then [] else []) else (bif Nat.blt f 262 then (bif Nat.beq f 261 then [4] else []) else (bif Nat.beq f 262 then [4] else []))))) else (bif Nat.blt f 268 then (bif Nat.blt f 265 then (bif Nat.blt f 264 then (bif Nat.beq f 263 then [2] else []) else (bif Nat.beq f 264 then [4] else [])) else (bif Nat.blt f 266 then (bif Nat.beq f 265 then [4] else []) else (bif Nat.blt f 267 then (bif Nat.beq f 266 then [2] else []) else (bif Nat.beq f 267 then [2] else [])))) else (bif Nat.blt f 271 then (bif Nat.blt f 269 then (bif Nat.beq f 268 then [4] else []) else (bif Nat.blt f 270 then (bif Nat.beq f 269 then [4] else []) else (bif Nat.beq f 270 then [4, 5, 6] else []))) else (bif Nat.blt f 272 then (bif Nat.beq f 271 then [6, 7] else []) else (bif Nat.blt f 273 then (bif Nat.beq f 272 then [10] else []) else (bif Nat.beq f 273 then [4, 5] else [])))))) else (bif Nat.blt f 284 then (bif Nat.blt f 279 then (bif Nat.blt f 276 then (bif Nat.blt f 275 then (bif Nat.beq f 274 then [2] else []) else (bif Nat.beq f 275 then [2] else [])) else (bif Nat.blt f 277 then (bif Nat.beq f 276 then [] else []) else (bif Nat.blt f 278 then (bif Nat.beq f 277 then [10, 11] else []) else (bif Nat.beq f 278 then [4, 5] else [])))) else (bif Nat.blt f 281 then (bif Nat.blt f 280 then (bif Nat.beq f 279 then [4] else []) else (bif Nat.beq f 280 then [] else [])) else (bif Nat.blt f 282 then (bif Nat.beq f 281 then [4] else []) else (bif Nat.blt f 283 then (bif Nat.beq f 282 then [] else []) else (bif Nat.beq f 283 then [] else []))))) else (bif Nat.blt f 289 then (bif Nat.blt f 286 then (bif Nat.blt f 285 then (bif Nat.beq f 284 then [] else []) else (bif Nat.beq f 285 then [] else [])) else (bif Nat.blt f 287 then (bif Nat.beq f 286 then [8, 9] else []) else (bif Nat.blt f 288 then (bif Nat.beq f 287 then [] else []) else (bif Nat.beq f 288 then [8] else [])))) else (bif Nat.blt f 292 then (bif Nat.blt f 290 then (bif Nat.beq f 289 then [10] else []) else (bif Nat.blt f 291 then (bif Nat.beq f 290 then [10, 11] else []) else (bif Nat.beq f 291 then [2] else []))) else (bif Nat.blt f 293 then (bif Nat.beq f 292 then [2] else []) else (bif Nat.blt f 294 then (bif Nat.beq f 293 then [2] else []) else (bif Nat.beq f 294 then [6] else []))))))) else (bif Nat.blt f 316 then (bif Nat.blt f 305 then (bif Nat.blt f 300 then (bif Nat.blt f 297 then (bif Nat.blt f 296 then (bif Nat.beq f 295 then [4] else []) else (bif Nat.beq f 296 then [4] else [])) else (bif Nat.blt f 298 then (bif Nat.beq f 297 then [4] else []) else (bif Nat.blt f 299 then (bif Nat.beq f 298 then [] else []) else (bif Nat.beq f 299 then [4] else [])))) else (bif Nat.blt f 302 then (bif Nat.blt f 301 then (bif Nat.beq f 300 then [3] else []) else (bif Nat.beq f 301 then [] else [])) else (bif Nat.blt f 303 then (bif Nat.beq f 302 then [4] else []) else (bif Nat.blt f 304 then (bif Nat.beq f 303 then [4] else []) else (bif Nat.beq f 304 then [6, 7] else []))))) else (bif Nat.blt f 310 then (bif Nat.blt f 307 then (bif Nat.blt f 306 then (bif Nat.beq f 305 then [4] else []) else (bif Nat.beq f 306 then [4] else [])) else (bif Nat.blt f 308 then (bif Nat.beq f 307 then [6] else []) else (bif Nat.blt f 309 then (bif Nat.beq f 308 then [6] else []) else (bif Nat.beq f 309 then [2] else [])))) else (bif Nat.blt f 313 then (bif Nat.blt f 311 then (bif Nat.beq f 310 then [2] else []) else (bif Nat.blt f 312 then (bif Nat.beq f 311 then [2] else []) else (bif Nat.beq f 312 then [2] else []))) else (bif Nat.blt f 314 then (bif Nat.beq f 313 then [6] else []) else (bif Nat.blt f 315 then (bif Nat.beq f 314 then [] else []) else (bif Nat.beq f 315 then [] else [])))))) else (bif Nat.blt f 326 then (bif Nat.blt f 321 then (bif Nat.blt f 318 then (bif Nat.blt f 317 then (bif Nat.beq f 316 then [] else []) else (bif Nat.beq f 317 then [2] else [])) else (bif Nat.blt f 319 then (bif Nat.beq f 318 then [2] else []) else (bif Nat.blt f 320 then (bif Nat.beq f 319 then [8] else []) else (bif Nat.beq f 320 then [12] else [])))) else (bif Nat.blt f 323 then (bif Nat.blt f 322 then (bif Nat.beq f 321 then [4] else []) else (bif Nat.beq f 322 then [4] else [])) else (bif Nat.blt f 324 then (bif Nat.beq f 323 then [] else []) else (bif Nat.blt f 325 then (bif Nat.beq f 324 then [2] else []) else (bif Nat.beq f 325 then [4] else []))))) else (bif Nat.blt f 331 then (bif Nat.blt f 328 then (bif Nat.blt f 327 then (bif Nat.beq f 326 then [2] else []) else (bif Nat.beq f 327 then [2] else [])) else (bif Nat.blt f 329 then (bif Nat.beq f 328 then [2] else []) else (bif Nat.blt f 330 then (bif Nat.beq f 329 then [2] else []) else (bif Nat.beq f 330 then [2] else [])))) else (bif Nat.blt f 334 then (bif Nat.blt f 332 then (bif Nat.beq f 331 then [2] else []) else (bif Nat.blt f 333 then (bif Nat.beq f 332 then [2] else []) else (bif Nat.beq f 333 then [10, 11] else []))) else (bif Nat.blt f 335 then (bif Nat.beq f 334 then [] else []) else (bif Nat.blt f 336 then (bif Nat.beq f 335 then [2, 3] else []) else (bif Nat.beq f 336 then [2] else []))))))))))
def lvF (f : Nat) : Nat → List Nat := look (bif Nat.blt f 184 then (bif Nat.blt f 112 then (bif Nat.blt f 62 then (bif Nat.blt f 30 then (bif Nat.blt f 22 then (bif Nat.blt f 17 then (bif Nat.beq f 11 then [(0, [6, 7, 9, 11, 14])] else []) else (bif Nat.blt f 21 then (bif Nat.beq f 17 then [(0, [1, 3])] else []) else (bif Nat.beq f 21 then [(0, [0, 4, 5, 6, 7])] else []))) else (bif Nat.blt f 23 then (bif Nat.beq f 22 then [(0, [1, 19, 20, 21, 22])] else []) else (bif Nat.blt f 27 then (bif Nat.beq f 23 then [(0, [1, 3])] else []) else (bif Nat.beq f 27 then [(0, [1, 2, 5, 6, 7]), (2, [1, 2, 5, 6, 8])] else [])))) else (bif Nat.blt f 45 then (bif Nat.blt f 37 then (bif Nat.beq f 30 then [(0, [0, 3, 4])] else []) else (bif Nat.blt f 44 then (bif Nat.beq f 37 then [(0, [2, 3, 5])] else []) else (bif Nat.beq f 44 then [(0, [0, 1, 5, 6, 7])] else []))) else (bif Nat.blt f 60 then (bif Nat.blt f 46 then (bif Nat.beq f 45 then [(0, [1, 2, 6, 19, 20, 21, 22])] else []) else (bif Nat.beq f 46 then [(0, [1, 2, 6, 7]), (2, [1, 2, 6, 7, 8, 9])] else [])) else (bif Nat.blt f 61 then (bif Nat.beq f 60 then [(0, [0, 1, 2, 6, 8]), (2, [0, 1, 2, 6, 9])] else []) else (bif Nat.beq f 61 then [(1, [1, 4, 5, 24, 25, 26, 27])] else []))))) else (bif Nat.blt f 92 then (bif Nat.blt f 77 then (bif Nat.blt f 71 then (bif Nat.beq f 62 then [(0, [1, 4, 5])] else []) else (bif Nat.blt f 74 then (bif Nat.beq f 71 then [(0, [0, 23, 24])] else []) else (bif Nat.beq f 74 then [(0, [0, 3])] else []))) else (bif Nat.blt f 82 then (bif Nat.blt f 80 then (bif Nat.beq f 77 then [(0, [1, 2, 3, 18, 19, 20, 21, 22]), (2, [1, 2, 6, 7, 8, 9, 48, 49, 50, 51])] else []) else (bif Nat.beq f 80 then [(0, [0, 3, 4, 9, 10, 11]), (2, [0, 3, 4, 21, 22, 23])] else [])) else (bif Nat.blt f 85 then (bif Nat.beq f 82 then [(0, [1, 2, 4, 5, 18, 19, 20, 21])] else []) else (bif Nat.beq f 85 then [(0, [1, 2, 3, 4, 5]), (2, [1, 2, 3, 6, 7, 8, 9, 10])] else [])))) else (bif Nat.blt f 107 then (bif Nat.blt f 96 then (bif Nat.beq f 92 then [(0, [1, 2, 4, 5, 6])] else []) else (bif Nat.blt f 98 then (bif Nat.beq f 96 then [(0, [0, 2, 4, 5, 6])] else []) else (bif Nat.beq f 98 then [(0, [0, 1, 5, 6]), (2, [0, 1, 5, 6, 7]), (4, [5, 8, 9, 10])] else []))) else (bif Nat.blt f 110 then (bif Nat.blt f 109 then (bif Nat.beq f 107 then [(0, [0, 6, 7, 8])] else []) else (bif Nat.beq f 109 then [(0, [2, 3, 4, 5, 6, 7])] else [])) else (bif Nat.blt f 111 then (bif Nat.beq f 110 then [(0, [2, 3, 4, 5, 6, 7])] else []) else (bif Nat.beq f 111 then [(0, [1, 2, 5, 6, 7, 15, 16, 17, 18])] else [])))))) else (bif Nat.blt f 142 then (bif Nat.blt f 130 then (bif Nat.blt f 121 then (bif Nat.blt f 113 then (bif Nat.beq f 112 then [(0, [1, 2, 5])] else []) else (bif Nat.blt f 116 then (bif Nat.beq f 113 then [(0, [1, 2, 4, 5, 6])] else []) else (bif Nat.beq f 116 then [(0, [1, 3])] else []))) else (bif Nat.blt f 123 then (bif Nat.beq f 121 then [(0, [0, 1, 7, 8])] else []) else (bif Nat.blt f 128 then (bif Nat.beq f 123 then [(0, [0, 3])] else []) else (bif Nat.beq f 128 then [(1, [1, 4, 5])] else [])))) else (bif Nat.blt f 135 then (bif Nat.blt f 131 then (bif Nat.beq f 130 then [(0, [0, 1, 2, 7, 8])] else []) else (bif Nat.blt f 134 then (bif Nat.beq f 131 then [(1, [0, 1, 2, 7, 8])] else []) else (bif Nat.beq f 134 then [(1, [0, 1, 2, 3, 10, 11])] else []))) else (bif Nat.blt f 138 then (bif Nat.blt f 136 then (bif Nat.beq f 135 then [(0, [0, 1, 5, 6])] else []) else (bif Nat.beq f 136 then [(0, [0, 1, 5, 6])] else [])) else (bif Nat.blt f 139 then (bif Nat.beq f 138 then [(1, [0, 1, 92, 93])] else []) else (bif Nat.beq f 139 then [(0, [3, 7])] else []))))) else (bif Nat.blt f 157 then (bif Nat.blt f 145 then (bif Nat.blt f 143 then (bif Nat.beq f 142 then [(1, [0, 1, 2, 6, 8, 11, 12])] else []) else (bif Nat.blt f 144 then (bif Nat.beq f 143 then [(1, [1, 3])] else []) else (bif Nat.beq f 144 then [(0, [1, 3]), (2, [1, 3, 4])] else []))) else (bif Nat.blt f 151 then (bif Nat.blt f 149 then (bif Nat.beq f 145 then [(0, [0, 1, 4, 7, 8, 9])] else []) else (bif Nat.beq f 149 then [(0, [1, 5, 6])] else [])) else (bif Nat.blt f 154 then (bif Nat.beq f 151 then [(0, [0, 1, 5]), (2, [0, 1, 5, 8, 9])] else []) else (bif Nat.beq f 154 then [(0, [0, 3, 5, 11, 16, 17, 18])] else [])))) else (bif Nat.blt f 179 then (bif Nat.blt f 161 then (bif Nat.beq f 157 then [(0, [0, 3, 4])] else []) else (bif Nat.blt f 167 then (bif Nat.beq f 161 then [(0, [1, 2, 6, 7, 21, 22, 23])] else []) else (bif Nat.beq f 167 then [(0, [0, 1, 5])] else []))) else (bif Nat.blt f 182 then (bif Nat.blt f 180 then (bif Nat.beq f 179 then [(0, [0, 1])] else []) else (bif Nat.beq f 180 then [(0, [0, 1, 5, 6, 7, 8])] else [])) else (bif Nat.blt f 183 then (bif Nat.beq f 182 then [(0, [0, 1, 5, 6, 7])] else []) else (bif Nat.beq f 183 then [(0, [0, 1, 6, 7, 8]), (2, [0, 1, 6, 7, 8, 9])] else []))))))) else (bif Nat.blt f 276 then (bif Nat.blt f 218 then (bif Nat.blt f 200 then (bif Nat.blt f 189 then (bif Nat.blt f 185 then (bif Nat.beq f 184 then [(0, [0, 3])] else []) else (bif Nat.blt f 186 then (bif Nat.beq f 185 then [(0, [0])] else []) else (bif Nat.beq f 186 then [(0, [0, 1])] else []))) else (bif Nat.blt f 198 then (bif Nat.beq f 189 then [(0, [0, 1, 5, 18, 19, 20]), (2, [0, 1, 5, 6, 7, 8, 18, 19, 20, 25, 26, 27])] else []) else (bif Nat.blt f 199 then (bif Nat.beq f 198 then [(0, [1, 12, 13, 14, 15])] else []) else (bif Nat.beq f 199 then [(0, [0, 1, 5, 6, 20, 21])] else [])))) else (bif Nat.blt f 205 then (bif Nat.blt f 201 then (bif Nat.beq f 200 then [(0, [0, 1, 5])] else []) else (bif Nat.blt f 203 then (bif Nat.beq f 201 then [(0, [0, 1, 5, 6, 13, 14])] else []) else (bif Nat.beq f 203 then [(0, [1, 2, 3, 6, 8, 9, 10])] else []))) else (bif Nat.blt f 211 then (bif Nat.blt f 210 then (bif Nat.beq f 205 then [(1, [0, 4, 5, 6])] else []) else (bif Nat.beq f 210 then [(0, [0, 1, 2, 8, 9, 10, 11])] else [])) else (bif Nat.blt f 212 then (bif Nat.beq f 211 then [(0, [0, 3, 4, 5]), (3, [0, 3, 4, 5, 6, 7]), (5, [0, 3, 4, 5, 8, 9, 10]), (7, [3, 4, 11]), (9, [3, 4, 11, 12])] else []) else (bif Nat.beq f 212 then [(1, [0, 4, 6, 8]), (3, [2, 6, 9, 10])] else []))))) else (bif Nat.blt f 245 then (bif Nat.blt f 231 then (bif Nat.blt f 226 then (bif Nat.beq f 218 then [(0, [0, 5, 6, 16, 17])] else []) else (bif Nat.blt f 227 then (bif Nat.beq f 226 then [(0, [0, 4, 5, 6])] else []) else (bif Nat.beq f 227 then [(0, [0, 5, 6, 7, 8, 22, 23, 24, 25, 26, 27])] else []))) else (bif Nat.blt f 238 then (bif Nat.blt f 232 then (bif Nat.beq f 231 then [(0, [0, 3, 4]), (2, [0, 3, 4, 5, 20, 21, 22])] else []) else (bif Nat.beq f 232 then [(0, [0, 1])] else [])) else (bif Nat.blt f 239 then (bif Nat.beq f 238 then [(1, [0, 6, 7, 8]), (3, [6, 7, 8, 9, 10])] else []) else (bif Nat.beq f 239 then [(0, [0, 3])] else [])))) else (bif Nat.blt f 256 then (bif Nat.blt f 247 then (bif Nat.beq f 245 then [(0, [0, 1, 7, 8])] else []) else (bif Nat.blt f 254 then (bif Nat.beq f 247 then [(0, [0, 1, 2, 3, 4, 10, 11])] else []) else (bif Nat.beq f 254 then [(0, [0, 1, 5])] else []))) else (bif Nat.blt f 259 then (bif Nat.blt f 258 then (bif Nat.beq f 256 then [(0, [0, 2, 4, 6, 8]), (2, [2, 4, 6, 9, 10, 11])] else []) else (bif Nat.beq f 258 then [(0, [1, 2, 5])] else [])) else (bif Nat.blt f 268 then (bif Nat.beq f 259 then [(1, [0, 1, 4, 5])] else []) else (bif Nat.beq f 268 then [(0, [0, 4, 5, 27, 28, 29])] else [])))))) else (bif Nat.blt f 296 then (bif Nat.blt f 285 then (bif Nat.blt f 279 then (bif Nat.blt f 277 then (bif Nat.beq f 276 then [(0, [0, 1, 4])] else []) else (bif Nat.blt f 278 then (bif Nat.beq f 277 then [(0, [0, 1, 3, 4, 10, 11, 12, 13, 14, 15, 16]), (2, [0, 1, 3, 4, 10, 11, 12, 13, 17])] else []) else (bif Nat.beq f 278 then [(0, [0, 1, 6, 7, 8])] else []))) else (bif Nat.blt f 283 then (bif Nat.blt f 282 then (bif Nat.beq f 279 then [(0, [0, 1, 5, 7, 8, 9])] else []) else (bif Nat.beq f 282 then [(0, [0, 1, 3])] else [])) else (bif Nat.blt f 284 then (bif Nat.beq f 283 then [(0, [0, 1, 2, 3, 8]), (2, [0, 1, 2, 3, 8, 9])] else []) else (bif Nat.beq f 284 then [(0, [0, 3, 8, 9, 10, 11]), (2, [0, 3, 8, 9, 12])] else [])))) else (bif Nat.blt f 289 then (bif Nat.blt f 287 then (bif Nat.beq f 285 then [(0, [0, 1, 8, 9, 10, 11])] else []) else (bif Nat.blt f 288 then (bif Nat.beq f 287 then [(0, [0, 8, 9])] else []) else (bif Nat.beq f 288 then [(0, [0, 1, 2, 3, 9, 10]), (2, [0, 1, 2, 3, 9, 10]), (4, [0, 1, 2, 3, 9, 10, 11]), (6, [0, 1, 2, 3, 9, 10, 12])] else []))) else (bif Nat.blt f 294 then (bif Nat.blt f 290 then (bif Nat.beq f 289 then [(0, [0, 1, 4, 11, 12]), (2, [0, 1, 4, 11, 12]), (4, [0, 1, 4, 11, 12])] else []) else (bif Nat.beq f 290 then [(0, [0, 1, 4, 12, 13]), (2, [0, 1, 4, 12, 13]), (4, [0, 1, 4, 12, 13]), (6, [0, 1, 4, 12, 13]), (8, [0, 1, 4, 12, 13])] else [])) else (bif Nat.blt f 295 then (bif Nat.beq f 294 then [(0, [0, 1, 2, 7])] else []) else (bif Nat.beq f 295 then [(0, [0, 1, 5, 6, 7])] else []))))) else (bif Nat.blt f 313 then (bif Nat.blt f 301 then (bif Nat.blt f 297 then (bif Nat.beq f 296 then [(0, [0, 1, 5])] else []) else (bif Nat.blt f 298 then (bif Nat.beq f 297 then [(0, [0, 1, 5])] else []) else (bif Nat.beq f 298 then [(0, [0, 2, 3])] else []))) else (bif Nat.blt f 303 then (bif Nat.blt f 302 then (bif Nat.beq f 301 then [(0, [0, 1, 3])] else []) else (bif Nat.beq f 302 then [(0, [0, 1, 12, 13])] else [])) else (bif Nat.blt f 304 then (bif Nat.beq f 303 then [(1, [0, 1, 5, 6, 7, 8, 9, 10])] else []) else (bif Nat.beq f 304 then [(3, [1, 8, 9, 10, 11, 12, 13, 99, 100, 101])] else [])))) else (bif Nat.blt f 321 then (bif Nat.blt f 314 then (bif Nat.beq f 313 then [(0, [0, 1, 2, 7, 8, 12, 13])] else []) else (bif Nat.blt f 316 then (bif Nat.beq f 314 then [(0, [0, 1, 4, 8, 9])] else []) else (bif Nat.beq f 316 then [(0, [0, 2, 3, 4, 10])] else []))) else (bif Nat.blt f 327 then (bif Nat.blt f 325 then (bif Nat.beq f 321 then [(0, [0, 1, 7, 8])] else []) else (bif Nat.beq f 325 then [(0, [0, 1, 5, 6, 7, 8, 9]), (2, [0, 1, 5, 6, 7, 8, 10])] else [])) else (bif Nat.blt f 335 then (bif Nat.beq f 327 then [(0, [0, 3, 4, 5])] else []) else (bif Nat.beq f 335 then [(0, [0, 4, 5]), (2, [4, 6, 7, 8])] else []))))))))
def row (l : List Nat) : List (List PV) := l.map fun (n : Nat) => [.int .u32 (n : Int)]
theorem row_get {l : List Nat} {i : Nat} (h : i < l.length) : (row l)[i]? = some [.int .u32 (l.getD i 0 : Nat)] := by
 unfold row
 rw [List.getElem?_map, List.getElem?_eq_getElem h]
 simp [List.getD, List.getElem?_eq_getElem h]
theorem row_len (l : List Nat) : (row l).length = l.length := by simp [row]
theorem row_take (l : List Nat) (n : Nat) : (row l).take n = row (l.take n) := by simp [row]
theorem row_drop (l : List Nat) (n : Nat) : (row l).drop n = row (l.drop n) := by simp [row]
theorem row_append (l m : List Nat) : row l ++ row m = row (l ++ m) := by simp [row]
theorem row_snoc (l : List Nat) (x : Nat) : row l ++ [[.int .u32 (x : Int)]] = row (l ++ [x]) := by simp [row]
theorem row_set (l : List Nat) (i x : Nat) : (row l).set i [.int .u32 (x : Int)] = row (l.set i x) := by simp [row, List.map_set]
theorem row_rep (n : Nat) : List.replicate n [PV.int .u32 0] = row (List.replicate n 0) := by simp [row]
def unrow : List (List PV) → Option (List Nat)
 | [] => some []
 | [.int .u32 n] :: r => match unrow r with
  | some l => if 0 ≤ n then some (n.toNat :: l) else none
  | none => none
 | _ => none
theorem unrow_row : ∀ l, unrow (row l) = some l
 | [] => rfl
 | a :: l => by
  have ih := unrow_row l
  unfold row at ih ⊢
  rw [List.map_cons, unrow, ih]
  simp
theorem row_unrow : ∀ {xs : List (List PV)} {l : List Nat}, unrow xs = some l → xs = row l
 | [], l, h => by simp only [unrow, Option.some.injEq] at h; subst h; rfl
 | x :: xs, l, h => by
  unfold unrow at h
  split at h
  ·rename_i he; cases he
  ·rename_i n r he
   simp only [List.cons.injEq] at he
   obtain ⟨rfl, rfl⟩ := he
   split at h
   ·rename_i l' hl
    split at h
    ·rename_i h0
     cases h
     rw [row_unrow hl]
     simp only [row, List.map_cons]
     rw [Int.toNat_of_nonneg h0]
    ·cases h
   ·cases h
  ·cases h
def lval : List Nat → Nat
 | [] => 0
 | a :: l => a + 1000000000 * lval l
def limbsN : Nat → Nat → List Nat
 | 0, _ => []
 | n + 1, x => x % 1000000000 :: limbsN n (x / 1000000000)
def okL (l : List Nat) : Bool := l.all fun a => Nat.blt a 1000000000
def decS : Nat → Nat → Bs
 | 0, _ => []
 | k + 1, n => bif Nat.blt n 10 then [UInt8.ofNat (48 + n)] else decS k (n / 10) ++ [UInt8.ofNat (48 + n % 10)]
theorem decS_eq : ∀ (k n : Nat), n < k → decS k n = dec n
 | 0, n, h => by omega
 | k + 1, n, h => by
  rw [decS]
  by_cases h1 : n < 10
  ·have : Nat.blt n 10 = true := by simp only [Nat.blt, Nat.ble_eq]; omega
   rw [this, dec_small h1]; rfl
  ·have : Nat.blt n 10 = false := by rw [← Bool.not_eq_true]; simp only [Nat.blt, Nat.ble_eq]; omega
   rw [this, dec_big h1, ← decS_eq k (n / 10) (by omega)]; rfl
def decN (n : Nat) : Bs := decS (n + 1) n
theorem decN_eq (n : Nat) : decN n = dec n := decS_eq _ _ (by omega)
def fmtUintF (avs : List PV) : Option (PV × List (List PV)) :=
 match avs with
 | [.int .u64 n, .int .i64 10] => if 0 ≤ n ∧ n < 18446744073709551616 then some (.str (decN n.toNat), []) else none
 | _ => none
def fmtIntF (avs : List PV) : Option (PV × List (List PV)) :=
 match avs with
 | [.int .i64 n, .int .i64 10] => if -9223372036854775808 ≤ n ∧ n ≤ 9223372036854775807 then some (.str (if n < 0 then 45 :: decN n.natAbs else decN n.toNat), []) else none
 | _ => none
def canonL (l : List Nat) : Bool := okL l && !(l.getLast? == some 0)
def textF (avs : List PV) : Option (PV × List (List PV)) :=
 match avs with
 | [.imm 1 xs] => match unrow xs with
  | some l => if canonL l = true ∧ l.length ≤ 16777216 then some (.str (decN (lval l)), []) else none
  | none => none
 | _ => none
def reduceF (avs : List PV) : Option (PV × List (List PV)) :=
 match avs with
 | [.own (0, 0) 1 xs, .imm 1 ys] => match unrow xs, unrow ys with
  | some u, some v => if okL u = true ∧ okL v = true ∧ u.length = v.length + 1 ∧ 2 ≤ v.length ∧ v.length ≤ 16777216 ∧ 1000000000 ≤ 2 * v.getD (v.length - 1) 0 ∧ lval u < 1000000000 * lval v then
    some (.int .u32 (lval u / lval v : Nat), row (limbsN u.length (lval u % lval v))) else none
  | _, _ => none
 | _ => none
def trimL (l : List Nat) : Nat → Nat
 | 0 => 0
 | n + 1 => if l.getD n 0 = 0 then trimL l n else n + 1
def trimF (avs : List PV) : Option (PV × List (List PV)) :=
 match avs with
 | [.own (0, 0) 1 xs] => match unrow xs with
  | some l => if l.length ≤ 1099511627776 then some (.int .i64 (trimL l l.length : Nat), []) else none
  | none => none
 | _ => none
def constF (avs : List PV) : Option (PV × List (List PV)) :=
 match avs with
 | [.int .i64 kd, .str s] => some (.agg [.int .i64 kd, .nils 2, .str s], [])
 | _ => none
def Xc (f : FuncId) (avs : List PV) : Option (PV × List (List PV)) :=
 bif Nat.beq f 334 then indexByteF avs else bif Nat.beq f 281 then fmtUintF avs else bif Nat.beq f 237 then fmtIntF avs else bif Nat.beq f 190 then textF avs else
 bif Nat.beq f 279 then reduceF avs else bif Nat.beq f 239 then trimF avs else bif Nat.beq f 176 then constF avs else none
def NN : Nat := 4611686018427387904
noncomputable def T (k : Nat) : FuncId → List PV → Option (PV × List (List PV)) := lvl prog Xc keepF lvF NN k
theorem enter {k : Nat} {f : FuncId} {avs : List PV} {r : PV × List (List PV)} {fn : Func} {c : Code}
  (hX : Xc f avs = none) (hf : prog.funcs[f]? = some fn) (hc : fn.body = some c) (hn : ¬ (fn.name = "runtime.NumGoroutine" ∨ (wrB f || prB f) = true)) (hok : codeOK fn.ntmps (boxPos avs) c = true) (hl : (Nat.ble avs.length fn.ntmps && Nat.ble fn.ntmps VS) = true) (hst : avs.all stamp0 = true)
  (h : W prog (T k) (keepF f) (lvF f) NN 0 c (0, avs.zipIdx.map fun q => (q.2, q.1)) (endW (finishT tab fn.results.toList (boxPos avs)) r)) : T (k + 1) f avs = some r :=
 lvl_enter tab_eq hX hf hc hn hok (Nat.le_of_ble_eq_true (Bool.and_eq_true_iff.1 hl).1) (Nat.le_of_ble_eq_true (Bool.and_eq_true_iff.1 hl).2) hst h
theorem byX {k : Nat} {f : FuncId} {avs : List PV} {r : PV × List (List PV)} (h : Xc f avs = some r) : T k f avs = some r := lvl_X h
theorem wrap_i64 {x : Int} (h0 : -9223372036854775808 ≤ x) (h1 : x ≤ 9223372036854775807) : IntKind.i64.wrap x = x := by
 rw [IntKind.wrap_i64]; omega
theorem wrap_u64 {x : Int} (h0 : 0 ≤ x) (h1 : x < 18446744073709551616) : IntKind.u64.wrap x = x := by
 have e : ∀ n : Int, IntKind.u64.wrap n = n % 18446744073709551616 := fun n => by simp [IntKind.wrap, IntKind.bits, IntKind.signed]
 rw [e]; omega
theorem wrap_u32 {x : Int} (h0 : 0 ≤ x) (h1 : x < 4294967296) : IntKind.u32.wrap x = x := by
 have e : ∀ n : Int, IntKind.u32.wrap n = n % 4294967296 := fun n => by simp [IntKind.wrap, IntKind.bits, IntKind.signed]
 rw [e]; omega
theorem wrap_u8 {x : Int} (h0 : 0 ≤ x) (h1 : x < 256) : IntKind.u8.wrap x = x := by
 have e : ∀ n : Int, IntKind.u8.wrap n = n % 256 := fun n => by simp [IntKind.wrap, IntKind.bits, IntKind.signed]
 rw [e]; omega
theorem zs0 {A B : Prop} (b : B) (h : B → A := by
 intro b
 repeat (first | refine WX.step tab_eq rfl rfl trivial ?_ | refine WX.step tab_eq rfl rfl (by decide) ?_ | refine WX.nil ?_ | refine W.seq ?_ | refine W.region ?_ | refine W.regionD ?_ | refine W.block ?_ | refine W.skip ?_ | refine W.exit ?_ | refine W.ret ?_ | refine W.condT rfl ?_ | refine W.condF rfl ?_ | refine WX.skip rfl ?_)
 exact b) : A := h b
theorem zs1 {A B C : Prop} (c : C) (b : B) (h : C → B → A := by
 intro c b
 repeat (first | refine WX.step tab_eq rfl rfl trivial ?_ | refine WX.step tab_eq rfl rfl (by decide) ?_ | refine WX.nil ?_ | refine W.seq ?_ | refine W.region ?_ | refine W.regionD ?_ | refine W.block ?_ | refine W.skip ?_ | refine W.exit ?_ | refine W.ret ?_ | refine W.condT rfl ?_ | refine W.condF rfl ?_ | refine WX.skip rfl ?_)
 refine WX.call tab_eq rfl rfl rfl rfl rfl c rfl rfl ?_
 repeat (first | refine WX.step tab_eq rfl rfl trivial ?_ | refine WX.step tab_eq rfl rfl (by decide) ?_ | refine WX.nil ?_ | refine W.seq ?_ | refine W.region ?_ | refine W.regionD ?_ | refine W.block ?_ | refine W.skip ?_ | refine W.exit ?_ | refine W.ret ?_ | refine W.condT rfl ?_ | refine W.condF rfl ?_ | refine WX.skip rfl ?_)
 exact b) : A := h c b
theorem zs2 {A B C : Prop} (c : C) (b : B) (h : C → B → A := by
 intro c b
 refine WX.call tab_eq rfl rfl rfl rfl rfl c rfl rfl ?_
 repeat (first | refine WX.step tab_eq rfl rfl trivial ?_ | refine WX.step tab_eq rfl rfl (by decide) ?_ | refine WX.nil ?_ | refine W.seq ?_ | refine W.region ?_ | refine W.regionD ?_ | refine W.block ?_ | refine W.skip ?_ | refine W.exit ?_ | refine W.ret ?_ | refine W.condT rfl ?_ | refine W.condF rfl ?_ | refine WX.skip rfl ?_)
 exact b) : A := h c b
theorem zs3 {A B C : Prop} (c : C) (b : B) (h : C → B → A := by
 intro c b
 refine WX.call tab_eq rfl rfl rfl rfl rfl c rfl rfl ?_
 exact b) : A := h c b
theorem zd0 {A B : Prop} (b : B) (h : B → A := by
 intro b
 repeat (first | refine WX.stepD tab_eq rfl rfl trivial ?_ | refine WX.stepD tab_eq rfl rfl (by decide) ?_ | refine WX.skipD rfl ?_)
 exact b) : A := h b
theorem zd1 {A B C : Prop} (c : C) (b : B) (h : C → B → A := by
 intro c b
 repeat (first | refine WX.step tab_eq rfl rfl trivial ?_ | refine WX.step tab_eq rfl rfl (by decide) ?_ | refine WX.nil ?_ | refine W.seq ?_ | refine W.region ?_ | refine W.regionD ?_ | refine W.block ?_ | refine W.skip ?_ | refine W.exit ?_ | refine W.ret ?_ | refine W.condT rfl ?_ | refine W.condF rfl ?_ | refine WX.skip rfl ?_)
 repeat (first | refine WX.stepD tab_eq rfl rfl trivial ?_ | refine WX.stepD tab_eq rfl rfl (by decide) ?_ | refine WX.skipD rfl ?_)
 refine WX.callD tab_eq rfl rfl rfl rfl rfl c rfl rfl ?_
 repeat (first | refine WX.stepD tab_eq rfl rfl trivial ?_ | refine WX.stepD tab_eq rfl rfl (by decide) ?_ | refine WX.skipD rfl ?_)
 refine WX.nilD (by kernel_rfl) ?_
 repeat (first | refine WX.step tab_eq rfl rfl trivial ?_ | refine WX.step tab_eq rfl rfl (by decide) ?_ | refine WX.nil ?_ | refine W.seq ?_ | refine W.region ?_ | refine W.regionD ?_ | refine W.block ?_ | refine W.skip ?_ | refine W.exit ?_ | refine W.ret ?_ | refine W.condT rfl ?_ | refine W.condF rfl ?_ | refine WX.skip rfl ?_)
 exact b) : A := h c b
theorem zd2 {A B C : Prop} (c : C) (b : B) (h : C → B → A := by
 intro c b
 repeat (first | refine WX.stepD tab_eq rfl rfl trivial ?_ | refine WX.stepD tab_eq rfl rfl (by decide) ?_ | refine WX.skipD rfl ?_)
 refine WX.callD tab_eq rfl rfl rfl rfl rfl c rfl rfl ?_
 repeat (first | refine WX.stepD tab_eq rfl rfl trivial ?_ | refine WX.stepD tab_eq rfl rfl (by decide) ?_ | refine WX.skipD rfl ?_)
 exact b) : A := h c b
theorem zd4 {A B C : Prop} (c : C) (b : B) (h : C → B → A := by
 intro c b
 refine WX.callD tab_eq rfl rfl rfl rfl rfl c rfl rfl ?_
 repeat (first | refine WX.stepD tab_eq rfl rfl trivial ?_ | refine WX.stepD tab_eq rfl rfl (by decide) ?_ | refine WX.skipD rfl ?_)
 exact b) : A := h c b
theorem zd5 {A B C : Prop} (c : C) (b : B) (h : C → B → A := by
 intro c b
 refine WX.callD tab_eq rfl rfl rfl rfl rfl c rfl rfl ?_
 repeat (first | refine WX.stepD tab_eq rfl rfl trivial ?_ | refine WX.stepD tab_eq rfl rfl (by decide) ?_ | refine WX.skipD rfl ?_)
 refine WX.nilD (by kernel_rfl) ?_
 repeat (first | refine WX.step tab_eq rfl rfl trivial ?_ | refine WX.step tab_eq rfl rfl (by decide) ?_ | refine WX.nil ?_ | refine W.seq ?_ | refine W.region ?_ | refine W.regionD ?_ | refine W.block ?_ | refine W.skip ?_ | refine W.exit ?_ | refine W.ret ?_ | refine W.condT rfl ?_ | refine W.condF rfl ?_ | refine WX.skip rfl ?_)
 exact b) : A := h c b
theorem zd6 {A B C : Prop} (c : C) (b : B) (h : C → B → A := by
 intro c b
 repeat (first | refine WX.stepD tab_eq rfl rfl trivial ?_ | refine WX.stepD tab_eq rfl rfl (by decide) ?_ | refine WX.skipD rfl ?_)
 refine WX.callD tab_eq rfl rfl rfl rfl rfl c rfl rfl ?_
 repeat (first | refine WX.stepD tab_eq rfl rfl trivial ?_ | refine WX.stepD tab_eq rfl rfl (by decide) ?_ | refine WX.skipD rfl ?_)
 refine WX.nilD (by kernel_rfl) ?_
 repeat (first | refine WX.step tab_eq rfl rfl trivial ?_ | refine WX.step tab_eq rfl rfl (by decide) ?_ | refine WX.nil ?_ | refine W.seq ?_ | refine W.region ?_ | refine W.regionD ?_ | refine W.block ?_ | refine W.skip ?_ | refine W.exit ?_ | refine W.ret ?_ | refine W.condT rfl ?_ | refine W.condF rfl ?_ | refine WX.skip rfl ?_)
 exact b) : A := h c b
theorem zd7 {A B : Prop} (b : B) (h : B → A := by
 intro b
 repeat (first | refine WX.stepD tab_eq rfl rfl trivial ?_ | refine WX.stepD tab_eq rfl rfl (by decide) ?_ | refine WX.skipD rfl ?_)
 refine WX.nilD (by kernel_rfl) ?_
 repeat (first | refine WX.step tab_eq rfl rfl trivial ?_ | refine WX.step tab_eq rfl rfl (by decide) ?_ | refine WX.nil ?_ | refine W.seq ?_ | refine W.region ?_ | refine W.regionD ?_ | refine W.block ?_ | refine W.skip ?_ | refine W.exit ?_ | refine W.ret ?_ | refine W.condT rfl ?_ | refine W.condF rfl ?_ | refine WX.skip rfl ?_)
 exact b) : A := h b
theorem zd8 {A B : Prop} (b : B) (h : B → A := by
 intro b
 repeat (first | refine WX.step tab_eq rfl rfl trivial ?_ | refine WX.step tab_eq rfl rfl (by decide) ?_ | refine WX.nil ?_ | refine W.seq ?_ | refine W.region ?_ | refine W.regionD ?_ | refine W.block ?_ | refine W.skip ?_ | refine W.exit ?_ | refine W.ret ?_ | refine W.condT rfl ?_ | refine W.condF rfl ?_ | refine WX.skip rfl ?_)
 repeat (first | refine WX.stepD tab_eq rfl rfl trivial ?_ | refine WX.stepD tab_eq rfl rfl (by decide) ?_ | refine WX.skipD rfl ?_)
 exact b) : A := h b

abbrev te := @tab_eq
abbrev wS := @WX.step
abbrev wD := @WX.stepD
abbrev wC := @WX.call
abbrev wG := @WX.callD
abbrev wI := @WX.idxImm
abbrev wN := @WX.nil
abbrev wq := @W.seq
abbrev wr := @W.region
abbrev wR := @W.regionD
abbrev wb := @W.block
abbrev wk := @W.skip
abbrev we := @W.exit
abbrev wt := @W.ret
abbrev wT := @W.condT
abbrev wF := @W.condF
abbrev wK := @WX.skip
abbrev wL := @WX.skipD
end Go.PE
namespace Go.PE
open Go.RowKit Go.Proofs.Tryz
set_option maxRecDepth 100000
theorem row_sc (l : List Nat) : flat1 (row l) = true := by
 unfold flat1
 rw [List.all_eq_true]
 intro c hc
 obtain ⟨n, _, rfl⟩ := List.mem_map.1 hc
 rfl
theorem trimL_le (l : List Nat) : ∀ n, trimL l n ≤ n
 | 0 => Nat.le_refl _
 | n + 1 => by
  rw [trimL]; split
  ·exact Nat.le_trans (trimL_le l n) (by omega)
  ·omega
variable {k : Nat}
theorem trim_X {l : List Nat} (h : l.length ≤ 1099511627776) : T k 239 [.own (0, 0) 1 (row l)] = some (.int .i64 (trimL l l.length : Nat), []) := by
 refine byX ?_
 show trimF [.own (0, 0) 1 (row l)] = some (.int .i64 (trimL l l.length : Nat), [])
 simp only [trimF, unrow_row]
 rw [if_pos h]
theorem viaA {f : FuncId} {avs avs' : List PV} {r : Option (PV × List (List PV))} (h : T k f avs' = r) (e : avs = avs') : T k f avs = r := e ▸ h
end Go.PE
namespace Go.PE
theorem okL_iff {l : List Nat} : okL l = true ↔ ∀ a ∈ l, a < 1000000000 := by
 unfold okL
 rw [List.all_eq_true]
 constructor
 ·intro h a ha
  have := h a ha
  simp only [Nat.blt, Nat.ble_eq] at this
  omega
 ·intro h a ha
  have := h a ha
  simp only [Nat.blt, Nat.ble_eq]
  omega
theorem okL_cons {a : Nat} {l : List Nat} : okL (a :: l) = true ↔ a < 1000000000 ∧ okL l = true := by
 rw [okL_iff, okL_iff]; simp
theorem okL_append {l m : List Nat} : okL (l ++ m) = true ↔ okL l = true ∧ okL m = true := by
 rw [okL_iff, okL_iff, okL_iff]
 simp only [List.mem_append]
 exact ⟨fun h => ⟨fun a ha => h a (.inl ha), fun a ha => h a (.inr ha)⟩, fun h a ha => ha.elim (h.1 a) (h.2 a)⟩
theorem okL_getD {l : List Nat} (h : okL l = true) (i : Nat) : l.getD i 0 < 1000000000 := by
 rw [okL_iff] at h
 by_cases hi : i < l.length
 ·rw [List.getD, List.getElem?_eq_getElem hi]; exact h _ (List.getElem_mem hi)
 ·rw [List.getD, List.getElem?_eq_none (by omega)]; show 0 < _; omega
theorem okL_take {l : List Nat} (h : okL l = true) (n : Nat) : okL (l.take n) = true := by
 rw [okL_iff] at h ⊢; exact fun a ha => h a (List.mem_of_mem_take ha)
theorem okL_drop {l : List Nat} (h : okL l = true) (n : Nat) : okL (l.drop n) = true := by
 rw [okL_iff] at h ⊢; exact fun a ha => h a (List.mem_of_mem_drop ha)
theorem okL_set {l : List Nat} (h : okL l = true) (i : Nat) {x : Nat} (hx : x < 1000000000) : okL (l.set i x) = true := by
 rw [okL_iff] at h ⊢
 intro a ha
 rcases List.mem_or_eq_of_mem_set ha with ha | rfl
 ·exact h a ha
 ·exact hx
theorem okL_rep (n : Nat) : okL (List.replicate n 0) = true := by
 rw [okL_iff]; intro a ha; rw [(List.mem_replicate.1 ha).2]; omega
theorem lval_append (l m : List Nat) : lval (l ++ m) = lval l + 1000000000 ^ l.length * lval m := by
 induction l with
 | nil => simp [lval]
 | cons a l ih =>
  rw [List.cons_append, lval, lval, ih, List.length_cons, Nat.pow_succ]
  rw [Nat.mul_add, Nat.mul_comm (1000000000 ^ l.length) 1000000000, Nat.mul_assoc]
  omega
theorem lval_lt {l : List Nat} (h : okL l = true) : lval l < 1000000000 ^ l.length := by
 induction l with
 | nil => simp [lval]
 | cons a l ih =>
  rw [okL_cons] at h
  have := ih h.2
  rw [lval, List.length_cons, Nat.pow_succ]
  omega
theorem lval_rep (n : Nat) : lval (List.replicate n 0) = 0 := by
 induction n with
 | zero => rfl
 | succ n ih => rw [List.replicate_succ, lval, ih]
theorem take_succ_getD {l : List Nat} {i : Nat} (h : i < l.length) : l.take (i + 1) = l.take i ++ [l.getD i 0] := by
 rw [List.take_succ_eq_append_getElem h]
 simp [List.getD, List.getElem?_eq_getElem h]
theorem lval_take_succ {l : List Nat} {i : Nat} (h : i < l.length) : lval (l.take (i + 1)) = lval (l.take i) + 1000000000 ^ i * l.getD i 0 := by
 rw [take_succ_getD h, lval_append, List.length_take, Nat.min_eq_left (by omega)]
 simp [lval]
theorem lval_take_drop (l : List Nat) (i : Nat) (h : i ≤ l.length) : lval l = lval (l.take i) + 1000000000 ^ i * lval (l.drop i) := by
 conv => lhs; rw [← List.take_append_drop i l]
 rw [lval_append, List.length_take, Nat.min_eq_left h]
theorem drop_getD {l : List Nat} {i : Nat} (h : i < l.length) : l.drop i = l.getD i 0 :: l.drop (i + 1) := by
 rw [List.drop_eq_getElem_cons h]
 simp [List.getD, List.getElem?_eq_getElem h]
def limbs (n : Nat) : List Nat := if h : n = 0 then [] else (n % 1000000000) :: limbs (n / 1000000000)
termination_by n
decreasing_by omega
theorem limbs_zero : limbs 0 = [] := by rw [limbs]; simp
theorem limbs_pos {n : Nat} (h : n ≠ 0) : limbs n = (n % 1000000000) :: limbs (n / 1000000000) := by rw [limbs, dif_neg h]
theorem lval_limbs (n : Nat) : lval (limbs n) = n := by
 induction n using Nat.strongRecOn with
 | _ n ih =>
  by_cases h : n = 0
  ·subst h; rw [limbs_zero]; rfl
  ·rw [limbs_pos h, lval, ih _ (by omega)]; omega
theorem okL_limbs (n : Nat) : okL (limbs n) = true := by
 induction n using Nat.strongRecOn with
 | _ n ih =>
  by_cases h : n = 0
  ·subst h; rw [limbs_zero]; rfl
  ·rw [limbs_pos h, okL_cons]; exact ⟨by omega, ih _ (by omega)⟩
theorem limbs_eq_nil {n : Nat} : limbs n = [] ↔ n = 0 := by
 constructor
 ·intro h; rw [← lval_limbs n, h]; rfl
 ·rintro rfl; exact limbs_zero
theorem limbs_last (n : Nat) : (limbs n).getLast? ≠ some 0 := by
 induction n using Nat.strongRecOn with
 | _ n ih =>
  by_cases h : n = 0
  ·subst h; rw [limbs_zero]; simp
  ·rw [limbs_pos h]
   by_cases h2 : n / 1000000000 = 0
   ·rw [h2, limbs_zero]
    simp only [List.getLast?_singleton, ne_eq, Option.some.injEq]
    omega
   ·have := ih _ (show n / 1000000000 < n by omega)
    rw [List.getLast?_cons]
    cases hl : (limbs (n / 1000000000)).getLast? with
    | none => rw [List.getLast?_eq_none_iff] at hl; exact absurd (limbs_eq_nil.1 hl) h2
    | some x => rw [hl] at this; simpa using this
theorem limbs_unique {l : List Nat} (h : okL l = true) (hl : l.getLast? ≠ some 0) : limbs (lval l) = l := by
 induction l with
 | nil => exact limbs_zero
 | cons a l ih =>
  rw [okL_cons] at h
  have hl2 : l.getLast? ≠ some 0 := by
   intro hc
   apply hl
   rw [List.getLast?_cons, hc]; rfl
  have hne : lval (a :: l) ≠ 0 := by
   intro hz
   rw [lval] at hz
   have ha : a = 0 := by omega
   have hv : lval l = 0 := by omega
   have hle : l = [] := by rw [← ih h.2 hl2, hv, limbs_zero]
   subst hle ha
   exact hl rfl
  rw [limbs_pos hne, lval]
  rw [show (a + 1000000000 * lval l) % 1000000000 = a by omega, show (a + 1000000000 * lval l) / 1000000000 = lval l by omega, ih h.2 hl2]
theorem canonL_limbs (n : Nat) : canonL (limbs n) = true := by
 unfold canonL
 rw [okL_limbs, Bool.true_and, Bool.not_eq_true', beq_eq_false_iff_ne]
 exact limbs_last n
def ln (n : Nat) : Nat := (limbs n).length
theorem lt_ln (n : Nat) : n < 1000000000 ^ ln n := by
 have := lval_lt (okL_limbs n); rwa [lval_limbs] at this
theorem ln_le {n k : Nat} (h : n < 1000000000 ^ k) : ln n ≤ k := by
 induction k generalizing n with
 | zero =>
  have : n = 0 := by simpa using h
  subst this; unfold ln; rw [limbs_zero]; simp
 | succ k ih =>
  by_cases h0 : n = 0
  ·subst h0; unfold ln; rw [limbs_zero]; simp
  ·unfold ln
   rw [limbs_pos h0, List.length_cons]
   have := ih (n := n / 1000000000) (by rw [Nat.pow_succ] at h; omega)
   unfold ln at this
   omega
theorem ln_mono {a b : Nat} (h : a ≤ b) : ln a ≤ ln b := ln_le (Nat.lt_of_le_of_lt h (lt_ln b))
theorem ln_mul (a b : Nat) : ln (a * b) ≤ ln a + ln b := by
 apply ln_le
 rw [Nat.pow_add]
 by_cases ha : b = 0
 ·subst ha; rw [Nat.mul_zero]; exact Nat.mul_pos (Nat.pow_pos (by omega)) (Nat.pow_pos (by omega))
 ·exact Nat.lt_of_lt_of_le (Nat.mul_lt_mul_of_pos_right (lt_ln a) (by omega)) (Nat.mul_le_mul_left _ (Nat.le_of_lt (lt_ln b)))
theorem ln_zero : ln 0 = 0 := by unfold ln; rw [limbs_zero]; rfl
theorem ln_pos {n : Nat} (h : n ≠ 0) : 0 < ln n := by unfold ln; rw [limbs_pos h]; simp
theorem pow_le_of_ln {n : Nat} (h : n ≠ 0) : 1000000000 ^ (ln n - 1) ≤ n := by
 rcases Nat.lt_or_ge n (1000000000 ^ (ln n - 1)) with h1 | h1
 ·have := ln_le h1
  have := ln_pos h
  omega
 ·exact h1
theorem ln_small {n : Nat} (h : n < 1000000000) : ln n ≤ 1 := ln_le (by simpa using h)
theorem limbs_small {n : Nat} (h0 : n ≠ 0) (h : n < 1000000000) : limbs n = [n] := by
 rw [limbs_pos h0, Nat.mod_eq_of_lt h, Nat.div_eq_of_lt h, limbs_zero]
theorem lt_of_ln_lt {a b : Nat} (h : ln a < ln b) : a < b := by
 rcases Nat.lt_or_ge a b with h1 | h1
 ·exact h1
 ·have := ln_mono h1; omega
end Go.PE
namespace Go.PE
open Go.RowKit Go.Proofs.Tryz
set_option maxRecDepth 100000
theorem trim_spec (l : List Nat) : ∀ n, n ≤ l.length → lval (l.take (trimL l n)) = lval (l.take n) ∧ (l.take (trimL l n)).getLast? ≠ some 0
 | 0, _ => by simp [trimL]
 | n + 1, h => by
  obtain ⟨h1, h2⟩ := trim_spec l n (by omega)
  rw [trimL]
  split
  ·rename_i h0
   refine ⟨?_, h2⟩
   rw [h1, lval_take_succ (by omega), h0, Nat.mul_zero, Nat.add_zero]
  ·rename_i h0
   refine ⟨rfl, ?_⟩
   rw [take_succ_getD (by omega), List.getLast?_append]
   simpa using h0
theorem trim_limbs {l : List Nat} (h : okL l = true) : l.take (trimL l l.length) = limbs (lval l) := by
 obtain ⟨h1, h2⟩ := trim_spec l l.length (Nat.le_refl _)
 rw [List.take_length] at h1
 rw [← h1]
 exact (limbs_unique (okL_take h _) h2).symm
variable {k : Nat}
theorem at_T {l : List Nat} (i : Nat) (hl : l.length < 1099511627776) : T (k + 1) 246 [.imm 1 (row l), .int .i64 i] = some (.int .u32 (l.getD i 0 : Nat), []) := by
 refine enter rfl func246 rfl (by decide) (by kernel_rfl) rfl rfl ?_
 refine zs0 ?_
 refine W.cond rfl (fun hc => ?_) (fun hc => ?_)
 ·have hc := of_decide_eq_true hc
  rw [row_len] at hc
  refine zs0 ?_
  have : l.getD i 0 = 0 := by rw [List.getD, List.getElem?_eq_none (by omega)]; rfl
  rw [this]
  rfl
 ·have hc := of_decide_eq_false hc
  rw [row_len] at hc
  have hg := row_get (l := l) (i := i) (by omega)
  refine zs0 ?_
  refine wI te rfl rfl rfl rfl rfl rfl (by omega) (hg) ?_
  refine zs0 ?_
  rfl
theorem one_T (n : Nat) : T (k + 1) 191 [.imm 1 (row (limbs n))] = some (.bool (decide (n = 1)), []) := by
 refine enter rfl func191 rfl (by decide) (by kernel_rfl) rfl rfl ?_
 refine zs0 ?_
 refine WX.boolM rfl rfl (fun hb => ?_) (fun hb => ?_)
 ·have hb := of_decide_eq_true hb
  rw [row_len] at hb
  have hl : (limbs n).length = 1 := by omega
  have hg := row_get (l := limbs n) (i := 0) (by omega)
  refine zs0 ?_
  refine wI te rfl rfl rfl rfl rfl rfl (by omega) (hg) ?_
  refine zs0 ?_
  have hn : n = (limbs n).getD 0 0 := by
   obtain ⟨x, hx⟩ : ∃ x, limbs n = [x] := List.length_eq_one_iff.1 hl
   have := lval_limbs n
   rw [hx] at this ⊢
   simp only [lval] at this
   simp; omega
  show some (PV.bool (bif true then decide (((limbs n).getD 0 0 : Nat) = (1 : Int)) else false), []) = _
  rw [← hn]
  by_cases h1 : n = 1 <;> simp [h1]
  omega
 ·have hb := of_decide_eq_false hb
  rw [row_len] at hb
  refine zs0 ?_
  have : ¬ n = 1 := by
   rintro rfl
   rw [limbs_small (by omega) (by omega)] at hb
   exact hb rfl
  rw [decide_eq_false this]
  rfl
end Go.PE
