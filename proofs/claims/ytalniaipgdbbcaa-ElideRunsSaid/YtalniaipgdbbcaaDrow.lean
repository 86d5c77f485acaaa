/-
  WRITTEN BY mka.py (a program of ours): of each function named below: its formula over data, and that the kernel reckons this very formula out of the function's code.
-/
import Derived.Test.YtalniaipgdbbcaaProg
import Derived.Test.YtalniaipgdbbcaaKc
namespace Go.Proofs.Ytalniaipgdbbcaa
open Go Go.Gp Go.Ga
set_option linter.unusedVariables false
set_option maxRecDepth 100000
set_option maxHeartbeats 0
def akTDrow : TypeId → Option AK
  | 1 => some (.one .any)
  | 2 => some (.one (.int .i64))
  | 3 => some (.one (.int .i64))
  | 4 => some (.one .bool)
  | 5 => some (.byte)
  | 6 => some (.byte)
  | 7 => some (.cons (.one (.int .i64)) (.cons (.one (.int .i64)) (.cons (.one .bool) (.one (.int .u8)))))
  | 8 => some (.cons (.one (.int .i64)) (.cons (.one (.int .i64)) (.cons (.one .bool) (.one (.int .u8)))))
  | 9 => some (.one .str)
  | 10 => some (.one .str)
  | 11 => some (.one .str)
  | 12 => some (.one (.int .u64))
  | 13 => some (.cons (.one .str) (.one (.int .u64)))
  | 14 => some (.cons (.one .str) (.one (.int .u64)))
  | 15 => some (.ref)
  | 16 => some (.ref)
  | 17 => some (.ref)
  | 18 => some (.ref)
  | 19 => some (.ref)
  | 20 => some (.one .any)
  | 21 => some (.one (.int .i32))
  | 22 => some (.row .byte)
  | 23 => some (.cons (.one (.int .i64)) (.cons (.one (.int .i64)) (.cons (.one (.int .i64)) (.cons (.row .byte) (.cons (.row .byte) (.cons (.row .byte) (.cons (.row .byte) (.one (.int .i64)))))))))
  | 24 => some (.cons (.one (.int .i64)) (.cons (.one (.int .i64)) (.cons (.one (.int .i64)) (.cons (.row .byte) (.cons (.row .byte) (.cons (.row .byte) (.cons (.row .byte) (.one (.int .i64)))))))))
  | 25 => some (.row (.cons (.row .byte) (.row .byte)))
  | 26 => some (.one (.int .u64))
  | 27 => some (.cons (.one (.int .i64)) (.cons (.one .bool) (.cons (.row .byte) (.cons (.row (.cons (.row .byte) (.row .byte))) (.one (.int .u64))))))
  | 28 => some (.cons (.one (.int .i64)) (.cons (.one .bool) (.cons (.row .byte) (.cons (.row (.cons (.row .byte) (.row .byte))) (.one (.int .u64))))))
  | 29 => some (.one .any)
  | 30 => some (.ref)
  | 31 => some (.one .any)
  | 32 => some (.one .any)
  | 34 => some (.one .any)
  | 35 => some (.one .any)
  | 36 => some (.one .any)
  | 38 => some (.one .any)
  | 39 => some (.one .any)
  | 41 => some (.one .any)
  | 42 => some (.one .any)
  | 43 => some (.one .any)
  | 44 => some (.one (.int .i64))
  | 45 => some (.one .any)
  | 46 => some (.one .any)
  | 47 => some (.row (.cons (.one (.int .i64)) (.cons (.one (.int .i64)) (.cons (.one (.int .i64)) (.cons (.one (.int .i64)) (.cons (.cons (.one (.int .i64)) (.cons (.one (.int .i64)) (.cons (.one (.int .i64)) (.cons (.row .byte) (.cons (.row .byte) (.cons (.row .byte) (.cons (.row .byte) (.one (.int .i64))))))))) (.cons (.one (.int .i64)) (.cons (.one .bool) (.cons (.row .byte) (.cons (.row (.cons (.row .byte) (.row .byte))) (.one (.int .u64))))))))))))
  | 48 => some (.row (.cons (.one (.int .i64)) (.cons (.cons (.one (.int .i64)) (.cons (.one (.int .i64)) (.cons (.one (.int .i64)) (.cons (.row .byte) (.cons (.row .byte) (.cons (.row .byte) (.cons (.row .byte) (.one (.int .i64))))))))) (.cons (.one (.int .i64)) (.cons (.one .bool) (.cons (.row .byte) (.cons (.row (.cons (.row .byte) (.row .byte))) (.one (.int .u64)))))))))
  | 49 => some (.cons (.one (.int .i64)) (.cons (.one (.int .i64)) (.cons (.one (.int .i64)) (.cons (.one (.int .i64)) (.cons (.cons (.one (.int .i64)) (.cons (.one (.int .i64)) (.cons (.one (.int .i64)) (.cons (.row .byte) (.cons (.row .byte) (.cons (.row .byte) (.cons (.row .byte) (.one (.int .i64))))))))) (.cons (.one (.int .i64)) (.cons (.one .bool) (.cons (.row .byte) (.cons (.row (.cons (.row .byte) (.row .byte))) (.one (.int .u64)))))))))))
  | 50 => some (.cons (.one (.int .i64)) (.cons (.one (.int .i64)) (.cons (.one (.int .i64)) (.cons (.one (.int .i64)) (.cons (.cons (.one (.int .i64)) (.cons (.one (.int .i64)) (.cons (.one (.int .i64)) (.cons (.row .byte) (.cons (.row .byte) (.cons (.row .byte) (.cons (.row .byte) (.one (.int .i64))))))))) (.cons (.one (.int .i64)) (.cons (.one .bool) (.cons (.row .byte) (.cons (.row (.cons (.row .byte) (.row .byte))) (.one (.int .u64)))))))))))
  | 51 => some (.one .any)
  | 53 => some (.one .any)
  | 54 => some (.one .any)
  | 55 => some (.cons (.one (.int .i64)) (.cons (.cons (.one (.int .i64)) (.cons (.one (.int .i64)) (.cons (.one (.int .i64)) (.cons (.row .byte) (.cons (.row .byte) (.cons (.row .byte) (.cons (.row .byte) (.one (.int .i64))))))))) (.cons (.one (.int .i64)) (.cons (.one .bool) (.cons (.row .byte) (.cons (.row (.cons (.row .byte) (.row .byte))) (.one (.int .u64))))))))
  | 56 => some (.cons (.one (.int .i64)) (.cons (.cons (.one (.int .i64)) (.cons (.one (.int .i64)) (.cons (.one (.int .i64)) (.cons (.row .byte) (.cons (.row .byte) (.cons (.row .byte) (.cons (.row .byte) (.one (.int .i64))))))))) (.cons (.one (.int .i64)) (.cons (.one .bool) (.cons (.row .byte) (.cons (.row (.cons (.row .byte) (.row .byte))) (.one (.int .u64))))))))
  | 58 => some (.one .any)
  | 59 => some (.one .any)
  | 60 => some (.one .any)
  | 62 => some (.one .any)
  | 63 => some (.one .any)
  | 64 => some (.one .any)
  | 65 => some (.one .any)
  | 66 => some (.one .any)
  | 67 => some (.one .any)
  | 68 => some (.row (.cons (.one (.int .i64)) (.cons (.one .bool) (.cons (.row .byte) (.cons (.row (.cons (.row .byte) (.row .byte))) (.one (.int .u64)))))))
  | 70 => some (.one .any)
  | 71 => some (.row (.cons (.one (.int .i64)) (.cons (.one (.int .i64)) (.cons (.one (.int .i64)) (.cons (.row .byte) (.cons (.row .byte) (.cons (.row .byte) (.cons (.row .byte) (.one (.int .i64))))))))))
  | 72 => some (.one .any)
  | 73 => some (.one .any)
  | 74 => some (.one .any)
  | 75 => some (.one .any)
  | 77 => some (.one .any)
  | 78 => some (.one .any)
  | 79 => some (.one .any)
  | 80 => some (.one .any)
  | 81 => some (.row (.one (.int .i64)))
  | 82 => some (.row (.one .bool))
  | 83 => some (.ref)
  | 84 => some (.one .any)
  | 85 => some (.one .any)
  | 86 => some (.one .any)
  | 87 => some (.one .any)
  | 89 => some (.one .any)
  | 90 => some (.one .any)
  | 91 => some (.one .any)
  | 92 => some (.row (.cons (.one (.int .i64)) (.cons (.one (.int .i64)) (.cons (.row (.one (.int .i64))) (.row (.cons (.one (.int .i64)) (.cons (.one (.int .i64)) (.cons (.one (.int .i64)) (.cons (.row .byte) (.cons (.row .byte) (.cons (.row .byte) (.cons (.row .byte) (.one (.int .i64))))))))))))))
  | 93 => some (.ref)
  | 94 => some (.row (.cons (.one (.int .i64)) (.cons (.one (.int .i64)) (.cons (.cons (.one (.int .i64)) (.cons (.one (.int .i64)) (.cons (.one (.int .i64)) (.cons (.row .byte) (.cons (.row .byte) (.cons (.row .byte) (.cons (.row .byte) (.one (.int .i64))))))))) (.cons (.one (.int .i64)) (.cons (.one .bool) (.cons (.row .byte) (.cons (.row (.cons (.row .byte) (.row .byte))) (.one (.int .u64))))))))))
  | 95 => some (.cons (.row (.cons (.one (.int .i64)) (.cons (.one (.int .i64)) (.cons (.cons (.one (.int .i64)) (.cons (.one (.int .i64)) (.cons (.one (.int .i64)) (.cons (.row .byte) (.cons (.row .byte) (.cons (.row .byte) (.cons (.row .byte) (.one (.int .i64))))))))) (.cons (.one (.int .i64)) (.cons (.one .bool) (.cons (.row .byte) (.cons (.row (.cons (.row .byte) (.row .byte))) (.one (.int .u64)))))))))) (.cons (.one (.int .i64)) (.one (.int .i64))))
  | 96 => some (.cons (.row (.cons (.one (.int .i64)) (.cons (.one (.int .i64)) (.cons (.cons (.one (.int .i64)) (.cons (.one (.int .i64)) (.cons (.one (.int .i64)) (.cons (.row .byte) (.cons (.row .byte) (.cons (.row .byte) (.cons (.row .byte) (.one (.int .i64))))))))) (.cons (.one (.int .i64)) (.cons (.one .bool) (.cons (.row .byte) (.cons (.row (.cons (.row .byte) (.row .byte))) (.one (.int .u64)))))))))) (.cons (.one (.int .i64)) (.one (.int .i64))))
  | 97 => some (.cons (.one (.int .i64)) (.cons (.one (.int .i64)) (.cons (.row (.one (.int .i64))) (.row (.cons (.one (.int .i64)) (.cons (.one (.int .i64)) (.cons (.one (.int .i64)) (.cons (.row .byte) (.cons (.row .byte) (.cons (.row .byte) (.cons (.row .byte) (.one (.int .i64)))))))))))))
  | 98 => some (.cons (.one (.int .i64)) (.cons (.one (.int .i64)) (.cons (.row (.one (.int .i64))) (.row (.cons (.one (.int .i64)) (.cons (.one (.int .i64)) (.cons (.one (.int .i64)) (.cons (.row .byte) (.cons (.row .byte) (.cons (.row .byte) (.cons (.row .byte) (.one (.int .i64)))))))))))))
  | 99 => some (.one .any)
  | 100 => some (.one .any)
  | 101 => some (.one .any)
  | 102 => some (.one .any)
  | 103 => some (.one .any)
  | 104 => some (.cons (.row (.cons (.one (.int .i64)) (.cons (.one .bool) (.cons (.row .byte) (.cons (.row (.cons (.row .byte) (.row .byte))) (.one (.int .u64))))))) (.cons (.one .bool) (.cons (.row .byte) (.one .bool))))
  | 105 => some (.cons (.row (.cons (.one (.int .i64)) (.cons (.one .bool) (.cons (.row .byte) (.cons (.row (.cons (.row .byte) (.row .byte))) (.one (.int .u64))))))) (.cons (.one .bool) (.cons (.row .byte) (.one .bool))))
  | 107 => some (.one .any)
  | 108 => some (.cons (.row .byte) (.row .byte))
  | 109 => some (.cons (.row .byte) (.row .byte))
  | 110 => some (.one .any)
  | 111 => some (.row (.row (.one (.int .i64))))
  | 112 => some (.one .any)
  | 113 => some (.one .any)
  | 114 => some (.one .any)
  | 115 => some (.one .any)
  | 116 => some (.row (.cons (.one (.int .i64)) (.cons (.one (.int .i64)) (.cons (.one (.int .i64)) (.cons (.cons (.one (.int .i64)) (.cons (.one (.int .i64)) (.cons (.one (.int .i64)) (.cons (.row .byte) (.cons (.row .byte) (.cons (.row .byte) (.cons (.row .byte) (.one (.int .i64))))))))) (.cons (.one (.int .i64)) (.cons (.one .bool) (.cons (.row .byte) (.cons (.row (.cons (.row .byte) (.row .byte))) (.one (.int .u64)))))))))))
  | 117 => some (.one .any)
  | 119 => some (.one .any)
  | 120 => some (.cons (.one (.int .i64)) (.cons (.one (.int .i64)) (.cons (.one (.int .i64)) (.cons (.cons (.one (.int .i64)) (.cons (.one (.int .i64)) (.cons (.one (.int .i64)) (.cons (.row .byte) (.cons (.row .byte) (.cons (.row .byte) (.cons (.row .byte) (.one (.int .i64))))))))) (.cons (.one (.int .i64)) (.cons (.one .bool) (.cons (.row .byte) (.cons (.row (.cons (.row .byte) (.row .byte))) (.one (.int .u64))))))))))
  | 121 => some (.cons (.one (.int .i64)) (.cons (.one (.int .i64)) (.cons (.one (.int .i64)) (.cons (.cons (.one (.int .i64)) (.cons (.one (.int .i64)) (.cons (.one (.int .i64)) (.cons (.row .byte) (.cons (.row .byte) (.cons (.row .byte) (.cons (.row .byte) (.one (.int .i64))))))))) (.cons (.one (.int .i64)) (.cons (.one .bool) (.cons (.row .byte) (.cons (.row (.cons (.row .byte) (.row .byte))) (.one (.int .u64))))))))))
  | 122 => some (.one .any)
  | 123 => some (.row (.cons (.one (.int .i64)) (.cons (.cons (.one (.int .i64)) (.cons (.one (.int .i64)) (.cons (.one (.int .i64)) (.cons (.row .byte) (.cons (.row .byte) (.cons (.row .byte) (.cons (.row .byte) (.one (.int .i64))))))))) (.cons (.one (.int .i64)) (.cons (.one .bool) (.cons (.row .byte) (.cons (.row (.cons (.row .byte) (.row .byte))) (.one (.int .u64)))))))))
  | 124 => some (.row (.cons (.one (.int .i64)) (.cons (.cons (.one (.int .i64)) (.cons (.one (.int .i64)) (.cons (.one (.int .i64)) (.cons (.row .byte) (.cons (.row .byte) (.cons (.row .byte) (.cons (.row .byte) (.one (.int .i64))))))))) (.cons (.one (.int .i64)) (.cons (.one .bool) (.cons (.row .byte) (.cons (.row (.cons (.row .byte) (.row .byte))) (.one (.int .u64)))))))))
  | 125 => some (.row (.cons (.one (.int .i64)) (.cons (.cons (.one (.int .i64)) (.cons (.one (.int .i64)) (.cons (.one (.int .i64)) (.cons (.row .byte) (.cons (.row .byte) (.cons (.row .byte) (.cons (.row .byte) (.one (.int .i64))))))))) (.cons (.one (.int .i64)) (.cons (.one .bool) (.cons (.row .byte) (.cons (.row (.cons (.row .byte) (.row .byte))) (.one (.int .u64)))))))))
  | 126 => some (.cons (.one (.int .i64)) (.cons (.cons (.one (.int .i64)) (.cons (.one (.int .i64)) (.cons (.one (.int .i64)) (.cons (.row .byte) (.cons (.row .byte) (.cons (.row .byte) (.cons (.row .byte) (.one (.int .i64))))))))) (.cons (.one (.int .i64)) (.cons (.one .bool) (.cons (.row .byte) (.cons (.row (.cons (.row .byte) (.row .byte))) (.one (.int .u64))))))))
  | 127 => some (.cons (.one (.int .i64)) (.cons (.cons (.one (.int .i64)) (.cons (.one (.int .i64)) (.cons (.one (.int .i64)) (.cons (.row .byte) (.cons (.row .byte) (.cons (.row .byte) (.cons (.row .byte) (.one (.int .i64))))))))) (.cons (.one (.int .i64)) (.cons (.one .bool) (.cons (.row .byte) (.cons (.row (.cons (.row .byte) (.row .byte))) (.one (.int .u64))))))))
  | 128 => some (.one .any)
  | 129 => some (.one .any)
  | 130 => some (.one .any)
  | 131 => some (.one .any)
  | 132 => some (.ref)
  | 133 => some (.one .any)
  | 134 => some (.one .any)
  | 135 => some (.one .any)
  | 136 => some (.one .any)
  | 137 => some (.one .any)
  | 138 => some (.ref)
  | 139 => some (.one .any)
  | 140 => some (.cons (.row (.cons (.row .byte) (.row .byte))) (.one (.int .i64)))
  | 141 => some (.cons (.row (.cons (.row .byte) (.row .byte))) (.one (.int .i64)))
  | 142 => some (.one .any)
  | 143 => some (.one .any)
  | 144 => some (.cons (.row .byte) (.row .byte))
  | 145 => some (.cons (.row .byte) (.row .byte))
  | 146 => some (.one .any)
  | 148 => some (.one .any)
  | 149 => some (.one .any)
  | 150 => some (.one .any)
  | 151 => some (.row (.cons (.one (.int .i64)) (.cons (.cons (.one (.int .i64)) (.cons (.one (.int .i64)) (.cons (.one (.int .i64)) (.cons (.row .byte) (.cons (.row .byte) (.cons (.row .byte) (.cons (.row .byte) (.one (.int .i64))))))))) (.cons (.one (.int .i64)) (.cons (.one .bool) (.cons (.row .byte) (.cons (.row (.cons (.row .byte) (.row .byte))) (.one (.int .u64)))))))))
  | 152 => some (.cons (.row (.cons (.one (.int .i64)) (.cons (.cons (.one (.int .i64)) (.cons (.one (.int .i64)) (.cons (.one (.int .i64)) (.cons (.row .byte) (.cons (.row .byte) (.cons (.row .byte) (.cons (.row .byte) (.one (.int .i64))))))))) (.cons (.one (.int .i64)) (.cons (.one .bool) (.cons (.row .byte) (.cons (.row (.cons (.row .byte) (.row .byte))) (.one (.int .u64))))))))) (.cons (.row (.one (.int .i64))) (.cons (.one (.int .i64)) (.one (.int .i64)))))
  | 153 => some (.cons (.row (.cons (.one (.int .i64)) (.cons (.cons (.one (.int .i64)) (.cons (.one (.int .i64)) (.cons (.one (.int .i64)) (.cons (.row .byte) (.cons (.row .byte) (.cons (.row .byte) (.cons (.row .byte) (.one (.int .i64))))))))) (.cons (.one (.int .i64)) (.cons (.one .bool) (.cons (.row .byte) (.cons (.row (.cons (.row .byte) (.row .byte))) (.one (.int .u64))))))))) (.cons (.row (.one (.int .i64))) (.cons (.one (.int .i64)) (.one (.int .i64)))))
  | 154 => some (.one .any)
  | 155 => some (.cons (.one (.int .i64)) (.cons (.cons (.one (.int .i64)) (.cons (.one (.int .i64)) (.cons (.one (.int .i64)) (.cons (.row .byte) (.cons (.row .byte) (.cons (.row .byte) (.cons (.row .byte) (.one (.int .i64))))))))) (.cons (.one (.int .i64)) (.cons (.one .bool) (.cons (.row .byte) (.cons (.row (.cons (.row .byte) (.row .byte))) (.one (.int .u64))))))))
  | 156 => some (.cons (.one (.int .i64)) (.cons (.cons (.one (.int .i64)) (.cons (.one (.int .i64)) (.cons (.one (.int .i64)) (.cons (.row .byte) (.cons (.row .byte) (.cons (.row .byte) (.cons (.row .byte) (.one (.int .i64))))))))) (.cons (.one (.int .i64)) (.cons (.one .bool) (.cons (.row .byte) (.cons (.row (.cons (.row .byte) (.row .byte))) (.one (.int .u64))))))))
  | 157 => some (.one .any)
  | 158 => some (.cons (.one (.int .i64)) (.cons (.one (.int .i64)) (.cons (.cons (.one (.int .i64)) (.cons (.one (.int .i64)) (.cons (.one (.int .i64)) (.cons (.row .byte) (.cons (.row .byte) (.cons (.row .byte) (.cons (.row .byte) (.one (.int .i64))))))))) (.cons (.one (.int .i64)) (.cons (.one .bool) (.cons (.row .byte) (.cons (.row (.cons (.row .byte) (.row .byte))) (.one (.int .u64)))))))))
  | 159 => some (.cons (.one (.int .i64)) (.cons (.one (.int .i64)) (.cons (.cons (.one (.int .i64)) (.cons (.one (.int .i64)) (.cons (.one (.int .i64)) (.cons (.row .byte) (.cons (.row .byte) (.cons (.row .byte) (.cons (.row .byte) (.one (.int .i64))))))))) (.cons (.one (.int .i64)) (.cons (.one .bool) (.cons (.row .byte) (.cons (.row (.cons (.row .byte) (.row .byte))) (.one (.int .u64)))))))))
  | 160 => some (.one .any)
  | 161 => some (.one .any)
  | 162 => some (.one .any)
  | 163 => some (.one .any)
  | 164 => some (.ref)
  | 165 => some (.one .any)
  | 166 => some (.one .any)
  | 167 => some (.one .any)
  | 168 => some (.ref)
  | 169 => some (.one .any)
  | 170 => some (.one .any)
  | 171 => some (.cons (.row (.cons (.row .byte) (.row .byte))) (.cons (.one .any) (.one .any)))
  | 172 => some (.cons (.row (.cons (.row .byte) (.row .byte))) (.cons (.one .any) (.one .any)))
  | 173 => some (.one .any)
  | 174 => some (.one .any)
  | 175 => some (.one .any)
  | 177 => some (.one .any)
  | 178 => some (.one .any)
  | 179 => some (.one .any)
  | 181 => some (.one .any)
  | 182 => some (.one .any)
  | 183 => some (.one .any)
  | 184 => some (.row (.cons (.one (.int .i64)) (.cons (.one (.int .i64)) (.cons (.one (.int .i64)) (.cons (.cons (.one (.int .i64)) (.cons (.one (.int .i64)) (.cons (.one (.int .i64)) (.cons (.row .byte) (.cons (.row .byte) (.cons (.row .byte) (.cons (.row .byte) (.one (.int .i64))))))))) (.cons (.one (.int .i64)) (.cons (.one .bool) (.cons (.row .byte) (.cons (.row (.cons (.row .byte) (.row .byte))) (.one (.int .u64)))))))))))
  | 185 => some (.row (.cons (.one (.int .i64)) (.cons (.one (.int .i64)) (.cons (.one (.int .i64)) (.cons (.cons (.one (.int .i64)) (.cons (.one (.int .i64)) (.cons (.one (.int .i64)) (.cons (.row .byte) (.cons (.row .byte) (.cons (.row .byte) (.cons (.row .byte) (.one (.int .i64))))))))) (.cons (.one (.int .i64)) (.cons (.one .bool) (.cons (.row .byte) (.cons (.row (.cons (.row .byte) (.row .byte))) (.one (.int .u64)))))))))))
  | 186 => some (.one .any)
  | 187 => some (.one .any)
  | 189 => some (.one .any)
  | 190 => some (.one .any)
  | 191 => some (.one .any)
  | 192 => some (.one .any)
  | 193 => some (.ref)
  | 194 => some (.cons (.cons (.one (.int .i64)) (.cons (.one (.int .i64)) (.cons (.one (.int .i64)) (.cons (.row .byte) (.cons (.row .byte) (.cons (.row .byte) (.cons (.row .byte) (.one (.int .i64))))))))) (.cons (.one .bool) (.cons (.one (.int .i64)) (.cons (.one .bool) (.cons (.row .byte) (.cons (.row (.cons (.row .byte) (.row .byte))) (.one (.int .u64))))))))
  | 195 => some (.cons (.cons (.one (.int .i64)) (.cons (.one (.int .i64)) (.cons (.one (.int .i64)) (.cons (.row .byte) (.cons (.row .byte) (.cons (.row .byte) (.cons (.row .byte) (.one (.int .i64))))))))) (.cons (.one .bool) (.cons (.one (.int .i64)) (.cons (.one .bool) (.cons (.row .byte) (.cons (.row (.cons (.row .byte) (.row .byte))) (.one (.int .u64))))))))
  | 196 => some (.one .any)
  | 197 => some (.one .any)
  | 198 => some (.one .any)
  | 199 => some (.one .any)
  | 200 => some (.one (.int .u64))
  | 201 => some (.one .any)
  | 202 => some (.one .any)
  | 203 => some (.one .any)
  | 204 => some (.one .any)
  | 205 => some (.one .any)
  | 206 => some (.cons .ref (.cons .ref (.cons .ref (.one .str))))
  | 207 => some (.cons .ref (.cons .ref (.cons .ref (.one .str))))
  | 209 => some (.nil)
  | 210 => some (.nil)
  | 211 => some (.one (.int .u32))
  | 212 => some (.byte)
  | 213 => some (.byte)
  | 214 => some (.one .any)
  | 215 => some (.ref)
  | 216 => some (.one (.int .i32))
  | 217 => some (.one (.int .i32))
  | 218 => some (.cons (.one (.int .u64)) (.cons (.one (.int .u64)) (.cons (.one (.int .u32)) (.cons (.one (.int .u8)) (.cons (.one (.int .u8)) (.cons (.one (.int .u8)) (.cons (.one (.int .u8)) (.cons (.one .any) (.cons .ref (.cons (.one (.int .i32)) (.one (.int .i32))))))))))))
  | 219 => some (.cons (.one (.int .u64)) (.cons (.one (.int .u64)) (.cons (.one (.int .u32)) (.cons (.one (.int .u8)) (.cons (.one (.int .u8)) (.cons (.one (.int .u8)) (.cons (.one (.int .u8)) (.cons (.one .any) (.cons .ref (.cons (.one (.int .i32)) (.one (.int .i32))))))))))))
  | _ => none
def okTDrow : TypeId → Option AK
  | 141 => some ((.cons (.row (.cons (.row .byte) (.row .byte))) (.one (.int .i64))))
  | _ => none
def sgTDrow : FuncId → Option Sig
  | 83 => some ⟨[(false, .row .byte)], [(false, .one .bool)], 0⟩
  | 84 => some ⟨[(false, .row (.cons (.row .byte) (.row .byte))), (false, .row .byte), (false, .row .byte)], [(false, .row (.cons (.row .byte) (.row .byte)))], 0⟩
  | 87 => some ⟨[(false, .row .byte)], [(false, .one .bool)], 0⟩
  | 88 => some ⟨[(false, .row .byte)], [(false, .one .bool)], 0⟩
  | 93 => some ⟨[(false, .row (.cons (.row .byte) (.row .byte))), (false, .row .byte)], [(false, .row (.cons (.row .byte) (.row .byte)))], 0⟩
  | 94 => some ⟨[(false, .row .byte), (false, .row .byte)], [(false, .one .bool)], 0⟩
  | 106 => some ⟨[(false, .row .byte), (false, .row .byte)], [(false, .one (.int .i64))], 0⟩
  | 113 => some ⟨[(false, .row .byte)], [(false, .row .byte)], 0⟩
  | 115 => some ⟨[(false, .row (.cons (.row .byte) (.row .byte))), (false, .row .byte)], [(false, .one (.int .i64)), (false, .one .bool)], 0⟩
  | 116 => some ⟨[(false, .row .byte), (false, .row .byte)], [(true, .cons (.row .byte) (.row .byte))], 0⟩
  | 123 => some ⟨[(false, .row .byte), (false, .row .byte)], [(false, .one .bool)], 0⟩
  | 125 => some ⟨[(false, .row .byte), (false, .row .byte)], [(false, .one (.int .i64))], 0⟩
  | 133 => some ⟨[(false, .row (.cons (.row .byte) (.row .byte))), (false, .row .byte)], [(false, .one (.int .i64)), (false, .one .bool)], 0⟩
  | 134 => some ⟨[(false, .row (.cons (.row .byte) (.row .byte)))], [(false, .own (.cons (.row .byte) (.row .byte)) 109)], 2⟩
  | 135 => some ⟨[(false, .own (.cons (.row .byte) (.row .byte)) 109), (false, .one (.int .i64)), (false, .one (.int .i64))], [(false, .own (.cons (.row .byte) (.row .byte)) 109)], 2⟩
  | 141 => some ⟨[(false, .own (.cons (.row .byte) (.row .byte)) 109), (false, .one (.int .i64)), (false, .row (.cons (.row .byte) (.row .byte)))], [(false, .own (.cons (.row .byte) (.row .byte)) 109)], 2⟩
  | 142 => some ⟨[(false, .row (.cons (.row .byte) (.row .byte))), (false, .row .byte), (false, .one .any)], [(false, .one (.int .i64)), (false, .one .bool)], 0⟩
  | 143 => some ⟨[(true, .cons (.row .byte) (.row .byte)), (false, .row .byte)], [(false, .one (.int .i64))], 0⟩
  | _ => none
theorem mixedDrow : Try.prog.follows .mixedOrders = true := by kernel_rfl

/-! garnet/garnetref05.Few -/
def A35 (a0 : AK.T (.row (.cons (.row .byte) (.row .byte)))) (a1 : AK.T (.one (.int .i64))) (H : HP) (K : HT [(false, .one .bool)] → HP → Prop) : Prop :=
  LoopA (V := ((List (List UInt8 × List UInt8)) × Int × Int × Unit) × Unit) ((a0, a1, 0, ()), ()) H fun (x1 : ((List (List UInt8 × List UInt8)) × Int × Int × Unit) × Unit) (H2 : HP) B3 => lenA x1.1.1.length fun (n4 : Int) => ifB (decide (x1.1.2.2.1 < n4)) (atA x1.1.1 x1.1.2.2.1 fun (l5 : List UInt8 × List UInt8) => lenA l5.1.length fun (n6 : Int) => ifB (decide (n6 > 100)) (K (false, ()) H2) (atA x1.1.1 x1.1.2.2.1 fun (l7 : List UInt8 × List UInt8) => lenA l7.2.length fun (n8 : Int) => ifB (decide (n8 > 100)) (K (false, ()) H2) (B3 ((x1.1.1, x1.1.2.1, IntKind.i64.wrap (x1.1.2.2.1 + 1), ()), ()) H2))) (lenA x1.1.1.length fun (n9 : Int) => K (decide (n9 ≤ x1.1.2.1), ()) H2)
theorem eqA35 (a0 : AK.T (.row (.cons (.row .byte) (.row .byte)))) (a1 : AK.T (.one (.int .i64))) (H : HP) (K : HT [(false, .one .bool)] → HP → Prop) : A35 a0 a1 H K = aFn ⟨Try.prog, sgTDrow, okTDrow, [], akTDrow⟩ ⟨[(0, .row (.cons (.row .byte) (.row .byte))), (7, .row (.cons (.row .byte) (.row .byte))), (12, .row (.cons (.row .byte) (.row .byte))), (16, .row .byte), (20, .row (.cons (.row .byte) (.row .byte))), (24, .row .byte), (28, .row (.cons (.row .byte) (.row .byte)))], []⟩ (.seq .n (.seq (.seq .n (.blk (.loop [0, 1, 5] [] (.seq (.seq .n (.cond .n .n)) (.seq (.blk (.seq .n (.cond (.seq .n .n) .n))) .n))))) (.seq .n .n))) Try.f35 [(false, .row (.cons (.row .byte) (.row .byte))), (false, .one (.int .i64))] (a0, a1, ()) [(false, .one .bool)] H K := by kernel_rfl
theorem callA35 (a0 : AK.T (.row (.cons (.row .byte) (.row .byte)))) (a1 : AK.T (.one (.int .i64))) (H : HP) (K : HT [(false, .one .bool)] → HP → Prop) (h : A35 a0 a1 H K) : callA Try.prog 35 [(false, .row (.cons (.row .byte) (.row .byte))), (false, .one (.int .i64))] (a0, a1, ()) [(false, .one .bool)] H K :=
  aFn_sound mixedDrow Try.func35 (Eq.mp (eqA35 a0 a1 H K) h)
abbrev S35 (a0 : AK.T (.row (.cons (.row .byte) (.row .byte)))) (a1 : AK.T (.one (.int .i64))) (r : HT [(false, .one .bool)]) : Prop := PureA Try.prog 35 [(false, .row (.cons (.row .byte) (.row .byte))), (false, .one (.int .i64))] (a0, a1, ()) [(false, .one .bool)] r
abbrev C35 (a0 : AK.T (.row (.cons (.row .byte) (.row .byte)))) (a1 : AK.T (.one (.int .i64))) (H : HP) (K : HT [(false, .one .bool)] → HP → Prop) : Prop := callA Try.prog 35 [(false, .row (.cons (.row .byte) (.row .byte))), (false, .one (.int .i64))] (a0, a1, ()) [(false, .one .bool)] H K
theorem pure35 (a0 : AK.T (.row (.cons (.row .byte) (.row .byte)))) (a1 : AK.T (.one (.int .i64))) {r : HT [(false, .one .bool)]} (h : ∀ (H : HP) (K : HT [(false, .one .bool)] → HP → Prop), K r H → A35 a0 a1 H K) : S35 a0 a1 r := fun H K hk => callA35 a0 a1 H K (h H K hk)

/-! garnet/garnetref05.Is -/
def A47 (a0 : AK.T (.row (.cons (.row .byte) (.row .byte)))) (H : HP) (K : HT [(false, .one .bool)] → HP → Prop) : Prop :=
  LoopA (V := ((List (List UInt8 × List UInt8)) × Int × Unit) × Unit) ((a0, 0, ()), ()) H fun (x1 : ((List (List UInt8 × List UInt8)) × Int × Unit) × Unit) (H2 : HP) B3 => lenA x1.1.1.length fun (n4 : Int) => ifB (decide (x1.1.2.1 < n4)) (atA x1.1.1 x1.1.2.1 fun (l5 : List UInt8 × List UInt8) => retA Try.prog 83 [(false, .row .byte)] (l5.1, ()) [(false, .one .bool)] fun (x6 : Bool × Unit) => ifB (! x6.1) (K (false, ()) H2) (atA x1.1.1 x1.1.2.1 fun (l7 : List UInt8 × List UInt8) => lenA l7.2.length fun (n8 : Int) => ifB (decide (n8 > 32)) (K (false, ()) H2) (ifB (decide (x1.1.2.1 > 0)) (atA x1.1.1 (IntKind.i64.wrap (x1.1.2.1 - 1)) fun (l9 : List UInt8 × List UInt8) => atA x1.1.1 x1.1.2.1 fun (l10 : List UInt8 × List UInt8) => retA Try.prog 94 [(false, .row .byte), (false, .row .byte)] (l9.1, l10.1, ()) [(false, .one .bool)] fun (x11 : Bool × Unit) => ifB (! x11.1) (K (false, ()) H2) (B3 ((x1.1.1, IntKind.i64.wrap (x1.1.2.1 + 1), ()), ()) H2)) (B3 ((x1.1.1, IntKind.i64.wrap (x1.1.2.1 + 1), ()), ()) H2)))) (K (true, ()) H2)
theorem eqA47 (a0 : AK.T (.row (.cons (.row .byte) (.row .byte)))) (H : HP) (K : HT [(false, .one .bool)] → HP → Prop) : A47 a0 H K = aFn ⟨Try.prog, sgTDrow, okTDrow, [], akTDrow⟩ ⟨[(0, .row (.cons (.row .byte) (.row .byte))), (7, .row (.cons (.row .byte) (.row .byte))), (12, .row (.cons (.row .byte) (.row .byte))), (16, .row .byte), (21, .row (.cons (.row .byte) (.row .byte))), (25, .row .byte), (31, .row (.cons (.row .byte) (.row .byte))), (36, .row .byte), (37, .row (.cons (.row .byte) (.row .byte))), (41, .row .byte)], []⟩ (.seq .n (.seq (.seq .n (.blk (.loop [0, 3] [] (.seq (.seq .n (.cond .n .n)) (.seq (.blk (.seq .n (.seq (.seq .n (.cond (.seq .n .n) .n)) (.seq .n (.cond (.seq (.ord 0 [⟨0, false, 0, 1, 2147483648⟩, ⟨0, false, 0, 8, 4294967296⟩, ⟨2, false, 0, 4294967296, 8589934592⟩, ⟨5, false, 0, 10737418240, 17179869184⟩, ⟨8, false, 0, 17179869184, 34359738368⟩, ⟨16, false, 0, 34359738368, 68719476736⟩, ⟨0, false, 0, 1, 137438953472⟩, ⟨0, false, 0, 8, 274877906944⟩, ⟨192, false, 0, 412316860416, 549755813888⟩, ⟨256, false, 0, 549755813888, 1099511627776⟩, ⟨512, false, 0, 1099511627776, 2199023255552⟩, ⟨1056, false, 0, 2267742732288, 4398046511104⟩, ⟨4095, false, 0, 4398046511104, 32⟩] [⟨0, 0, []⟩, ⟨1, 0, []⟩, ⟨2, 0, []⟩, ⟨3, 0, []⟩, ⟨4, 0, []⟩, ⟨5, 0, []⟩, ⟨6, 0, []⟩, ⟨7, 0, []⟩, ⟨8, 0, []⟩, ⟨9, 0, []⟩, ⟨10, 0, []⟩, ⟨11, 0, []⟩, ⟨12, 0, []⟩]) (.seq .n (.cond (.seq .n .n) .n))) .n))))) .n))))) (.seq .n .n))) Try.f47 [(false, .row (.cons (.row .byte) (.row .byte)))] (a0, ()) [(false, .one .bool)] H K := by kernel_rfl
theorem callA47 (a0 : AK.T (.row (.cons (.row .byte) (.row .byte)))) (H : HP) (K : HT [(false, .one .bool)] → HP → Prop) (h : A47 a0 H K) : callA Try.prog 47 [(false, .row (.cons (.row .byte) (.row .byte)))] (a0, ()) [(false, .one .bool)] H K :=
  aFn_sound mixedDrow Try.func47 (Eq.mp (eqA47 a0 H K) h)
abbrev S47 (a0 : AK.T (.row (.cons (.row .byte) (.row .byte)))) (r : HT [(false, .one .bool)]) : Prop := PureA Try.prog 47 [(false, .row (.cons (.row .byte) (.row .byte)))] (a0, ()) [(false, .one .bool)] r
abbrev C47 (a0 : AK.T (.row (.cons (.row .byte) (.row .byte)))) (H : HP) (K : HT [(false, .one .bool)] → HP → Prop) : Prop := callA Try.prog 47 [(false, .row (.cons (.row .byte) (.row .byte)))] (a0, ()) [(false, .one .bool)] H K
theorem pure47 (a0 : AK.T (.row (.cons (.row .byte) (.row .byte)))) {r : HT [(false, .one .bool)]} (h : ∀ (H : HP) (K : HT [(false, .one .bool)] → HP → Prop), K r H → A47 a0 H K) : S47 a0 r := fun H K hk => callA47 a0 H K (h H K hk)

/-! garnet/garnetref05.Row -/
def A36 (a0 : AK.T (.row (.cons (.row .byte) (.row .byte)))) (H : HP) (K : HT [(false, .row (.cons (.row .byte) (.row .byte)))] → HP → Prop) : Prop :=
  LoopA (V := ((List (List UInt8 × List UInt8)) × (List (List UInt8 × List UInt8)) × Int × Unit) × Unit) ((a0, [], 0, ()), ()) H fun (x1 : ((List (List UInt8 × List UInt8)) × (List (List UInt8 × List UInt8)) × Int × Unit) × Unit) (H2 : HP) B3 => lenA x1.1.1.length fun (n4 : Int) => ifB (decide (x1.1.2.2.1 < n4)) (atA x1.1.1 x1.1.2.2.1 fun (l5 : List UInt8 × List UInt8) => retA Try.prog 83 [(false, .row .byte)] (l5.1, ()) [(false, .one .bool)] fun (x6 : Bool × Unit) => JoinA (V := ((List (List UInt8 × List UInt8)) × (List (List UInt8 × List UInt8)) × Int × Bool × Unit) × Unit) (fun (x7 : ((List (List UInt8 × List UInt8)) × (List (List UInt8 × List UInt8)) × Int × Bool × Unit) × Unit) (H8 : HP) => ifB x7.1.2.2.2.1 (atA x7.1.1 x7.1.2.2.1 fun (l9 : List UInt8 × List UInt8) => atA x7.1.1 x7.1.2.2.1 fun (l10 : List UInt8 × List UInt8) => retA Try.prog 84 [(false, .row (.cons (.row .byte) (.row .byte))), (false, .row .byte), (false, .row .byte)] (x7.1.2.1, l9.1, l10.2, ()) [(false, .row (.cons (.row .byte) (.row .byte)))] fun (x11 : (List (List UInt8 × List UInt8)) × Unit) => B3 ((x7.1.1, x11.1, IntKind.i64.wrap (x7.1.2.2.1 + 1), ()), ()) H8) (B3 ((x7.1.1, x7.1.2.1, IntKind.i64.wrap (x7.1.2.2.1 + 1), ()), ()) H8)) fun B12 => ifB x6.1 (atA x1.1.1 x1.1.2.2.1 fun (l13 : List UInt8 × List UInt8) => lenA l13.2.length fun (n14 : Int) => B12 ((x1.1.1, x1.1.2.1, x1.1.2.2.1, decide (n14 ≤ 32), ()), ()) H2) (B12 ((x1.1.1, x1.1.2.1, x1.1.2.2.1, false, ()), ()) H2)) (K (x1.1.2.1, ()) H2)
theorem eqA36 (a0 : AK.T (.row (.cons (.row .byte) (.row .byte)))) (H : HP) (K : HT [(false, .row (.cons (.row .byte) (.row .byte)))] → HP → Prop) : A36 a0 H K = aFn ⟨Try.prog, sgTDrow, okTDrow, [], akTDrow⟩ ⟨[(0, .row (.cons (.row .byte) (.row .byte))), (2, .row (.cons (.row .byte) (.row .byte))), (3, .row (.cons (.row .byte) (.row .byte))), (7, .row (.cons (.row .byte) (.row .byte))), (12, .row (.cons (.row .byte) (.row .byte))), (16, .row .byte), (20, .row (.cons (.row .byte) (.row .byte))), (24, .row .byte), (28, .row (.cons (.row .byte) (.row .byte))), (29, .row (.cons (.row .byte) (.row .byte))), (33, .row .byte), (34, .row (.cons (.row .byte) (.row .byte))), (38, .row .byte), (39, .row (.cons (.row .byte) (.row .byte))), (40, .row (.cons (.row .byte) (.row .byte)))], []⟩ (.seq .n (.seq .n (.seq (.seq .n (.blk (.loop [0, 3, 4] [] (.seq (.seq .n (.cond .n .n)) (.seq (.blk (.seq .n (.join [(0, .v (.row (.cons (.row .byte) (.row .byte)))), (3, .v (.row (.cons (.row .byte) (.row .byte)))), (4, .v (.one (.int .i64))), (27, .v (.one .bool))] [] .n (.cond (.ord 4096 [⟨0, false, 0, 8, 268435456⟩, ⟨0, false, 0, 1, 536870912⟩, ⟨0, false, 0, 16, 1073741824⟩, ⟨6, false, 0, 1610612736, 2147483648⟩, ⟨8, false, 0, 2147483648, 4294967296⟩, ⟨16, false, 0, 4294967296, 8589934592⟩, ⟨0, false, 0, 1, 17179869184⟩, ⟨0, false, 0, 16, 34359738368⟩, ⟨192, false, 0, 51539607552, 68719476736⟩, ⟨256, false, 0, 68719476736, 137438953472⟩, ⟨512, false, 0, 137438953472, 274877906944⟩, ⟨1057, false, 0, 283736276992, 549755813888⟩, ⟨4095, false, 0, 549755813888, 8⟩] [⟨0, 0, []⟩, ⟨1, 0, []⟩, ⟨2, 0, []⟩, ⟨3, 0, []⟩, ⟨4, 0, []⟩, ⟨5, 0, []⟩, ⟨6, 0, []⟩, ⟨7, 0, []⟩, ⟨8, 0, []⟩, ⟨9, 0, []⟩, ⟨10, 0, []⟩, ⟨11, 0, []⟩, ⟨12, 2, []⟩]) .n)))) .n))))) (.seq .n .n)))) Try.f36 [(false, .row (.cons (.row .byte) (.row .byte)))] (a0, ()) [(false, .row (.cons (.row .byte) (.row .byte)))] H K := by kernel_rfl
theorem callA36 (a0 : AK.T (.row (.cons (.row .byte) (.row .byte)))) (H : HP) (K : HT [(false, .row (.cons (.row .byte) (.row .byte)))] → HP → Prop) (h : A36 a0 H K) : callA Try.prog 36 [(false, .row (.cons (.row .byte) (.row .byte)))] (a0, ()) [(false, .row (.cons (.row .byte) (.row .byte)))] H K :=
  aFn_sound mixedDrow Try.func36 (Eq.mp (eqA36 a0 H K) h)
abbrev S36 (a0 : AK.T (.row (.cons (.row .byte) (.row .byte)))) (r : HT [(false, .row (.cons (.row .byte) (.row .byte)))]) : Prop := PureA Try.prog 36 [(false, .row (.cons (.row .byte) (.row .byte)))] (a0, ()) [(false, .row (.cons (.row .byte) (.row .byte)))] r
abbrev C36 (a0 : AK.T (.row (.cons (.row .byte) (.row .byte)))) (H : HP) (K : HT [(false, .row (.cons (.row .byte) (.row .byte)))] → HP → Prop) : Prop := callA Try.prog 36 [(false, .row (.cons (.row .byte) (.row .byte)))] (a0, ()) [(false, .row (.cons (.row .byte) (.row .byte)))] H K
theorem pure36 (a0 : AK.T (.row (.cons (.row .byte) (.row .byte)))) {r : HT [(false, .row (.cons (.row .byte) (.row .byte)))]} (h : ∀ (H : HP) (K : HT [(false, .row (.cons (.row .byte) (.row .byte)))] → HP → Prop), K r H → A36 a0 H K) : S36 a0 r := fun H K hk => callA36 a0 H K (h H K hk)

/-! garnet/row.Find -/
def A133 (a0 : AK.T (.row (.cons (.row .byte) (.row .byte)))) (a1 : AK.T (.row .byte)) (H : HP) (K : HT [(false, .one (.int .i64)), (false, .one .bool)] → HP → Prop) : Prop :=
  retA Try.prog 142 [(false, .row (.cons (.row .byte) (.row .byte))), (false, .row .byte), (false, .one .any)] (a0, a1, .func (.func 143) #[] #[], ()) [(false, .one (.int .i64)), (false, .one .bool)] fun (x1 : Int × Bool × Unit) => K (x1.1, x1.2.1, ()) H
theorem eqA133 (a0 : AK.T (.row (.cons (.row .byte) (.row .byte)))) (a1 : AK.T (.row .byte)) (H : HP) (K : HT [(false, .one (.int .i64)), (false, .one .bool)] → HP → Prop) : A133 a0 a1 H K = aFn ⟨Try.prog, sgTDrow, okTDrow, [], akTDrow⟩ ⟨[(0, .row (.cons (.row .byte) (.row .byte))), (1, .row .byte), (6, .row (.cons (.row .byte) (.row .byte))), (7, .row .byte)], []⟩ (.seq .n (.seq .n .n)) Try.f133 [(false, .row (.cons (.row .byte) (.row .byte))), (false, .row .byte)] (a0, a1, ()) [(false, .one (.int .i64)), (false, .one .bool)] H K := by kernel_rfl
theorem callA133 (a0 : AK.T (.row (.cons (.row .byte) (.row .byte)))) (a1 : AK.T (.row .byte)) (H : HP) (K : HT [(false, .one (.int .i64)), (false, .one .bool)] → HP → Prop) (h : A133 a0 a1 H K) : callA Try.prog 133 [(false, .row (.cons (.row .byte) (.row .byte))), (false, .row .byte)] (a0, a1, ()) [(false, .one (.int .i64)), (false, .one .bool)] H K :=
  aFn_sound mixedDrow Try.func133 (Eq.mp (eqA133 a0 a1 H K) h)
abbrev S133 (a0 : AK.T (.row (.cons (.row .byte) (.row .byte)))) (a1 : AK.T (.row .byte)) (r : HT [(false, .one (.int .i64)), (false, .one .bool)]) : Prop := PureA Try.prog 133 [(false, .row (.cons (.row .byte) (.row .byte))), (false, .row .byte)] (a0, a1, ()) [(false, .one (.int .i64)), (false, .one .bool)] r
abbrev C133 (a0 : AK.T (.row (.cons (.row .byte) (.row .byte)))) (a1 : AK.T (.row .byte)) (H : HP) (K : HT [(false, .one (.int .i64)), (false, .one .bool)] → HP → Prop) : Prop := callA Try.prog 133 [(false, .row (.cons (.row .byte) (.row .byte))), (false, .row .byte)] (a0, a1, ()) [(false, .one (.int .i64)), (false, .one .bool)] H K
theorem pure133 (a0 : AK.T (.row (.cons (.row .byte) (.row .byte)))) (a1 : AK.T (.row .byte)) {r : HT [(false, .one (.int .i64)), (false, .one .bool)]} (h : ∀ (H : HP) (K : HT [(false, .one (.int .i64)), (false, .one .bool)] → HP → Prop), K r H → A133 a0 a1 H K) : S133 a0 a1 r := fun H K hk => callA133 a0 a1 H K (h H K hk)

/-! garnet/garnetref05.Find -/
def A115 (a0 : AK.T (.row (.cons (.row .byte) (.row .byte)))) (a1 : AK.T (.row .byte)) (H : HP) (K : HT [(false, .one (.int .i64)), (false, .one .bool)] → HP → Prop) : Prop :=
  LoopA (V := ((List (List UInt8 × List UInt8)) × List UInt8 × Int × Int × Unit) × Unit) ((a0, a1, 0, 0, ()), ()) H fun (x1 : ((List (List UInt8 × List UInt8)) × List UInt8 × Int × Int × Unit) × Unit) (H2 : HP) B3 => lenA x1.1.1.length fun (n4 : Int) => ifB (decide (x1.1.2.2.2.1 < n4)) (atA x1.1.1 x1.1.2.2.2.1 fun (l5 : List UInt8 × List UInt8) => retA Try.prog 94 [(false, .row .byte), (false, .row .byte)] (l5.1, x1.1.2.1, ()) [(false, .one .bool)] fun (x6 : Bool × Unit) => ifB x6.1 (B3 ((x1.1.1, x1.1.2.1, IntKind.i64.wrap (x1.1.2.2.2.1 + 1), IntKind.i64.wrap (x1.1.2.2.2.1 + 1), ()), ()) H2) (B3 ((x1.1.1, x1.1.2.1, x1.1.2.2.1, IntKind.i64.wrap (x1.1.2.2.2.1 + 1), ()), ()) H2)) (lenA x1.1.1.length fun (n7 : Int) => ifB ((x1.1.2.2.1 : Int) == n7) (K (x1.1.2.2.1, false, ()) H2) (atA x1.1.1 x1.1.2.2.1 fun (l8 : List UInt8 × List UInt8) => retA Try.prog 123 [(false, .row .byte), (false, .row .byte)] (l8.1, x1.1.2.1, ()) [(false, .one .bool)] fun (x9 : Bool × Unit) => K (x1.1.2.2.1, x9.1, ()) H2))
theorem eqA115 (a0 : AK.T (.row (.cons (.row .byte) (.row .byte)))) (a1 : AK.T (.row .byte)) (H : HP) (K : HT [(false, .one (.int .i64)), (false, .one .bool)] → HP → Prop) : A115 a0 a1 H K = aFn ⟨Try.prog, sgTDrow, okTDrow, [], akTDrow⟩ ⟨[(0, .row (.cons (.row .byte) (.row .byte))), (1, .row .byte), (10, .row (.cons (.row .byte) (.row .byte))), (15, .row (.cons (.row .byte) (.row .byte))), (19, .row .byte), (20, .row .byte), (26, .row (.cons (.row .byte) (.row .byte))), (31, .row (.cons (.row .byte) (.row .byte))), (35, .row .byte), (36, .row .byte)], []⟩ (.seq .n (.seq .n (.seq (.seq .n (.blk (.loop [0, 1, 6, 7] [] (.seq (.seq .n (.cond .n .n)) (.seq (.blk (.seq .n (.seq .n (.cond .n .n)))) .n))))) (.seq (.seq .n (.cond (.seq .n .n) .n)) (.seq .n .n))))) Try.f115 [(false, .row (.cons (.row .byte) (.row .byte))), (false, .row .byte)] (a0, a1, ()) [(false, .one (.int .i64)), (false, .one .bool)] H K := by kernel_rfl
theorem callA115 (a0 : AK.T (.row (.cons (.row .byte) (.row .byte)))) (a1 : AK.T (.row .byte)) (H : HP) (K : HT [(false, .one (.int .i64)), (false, .one .bool)] → HP → Prop) (h : A115 a0 a1 H K) : callA Try.prog 115 [(false, .row (.cons (.row .byte) (.row .byte))), (false, .row .byte)] (a0, a1, ()) [(false, .one (.int .i64)), (false, .one .bool)] H K :=
  aFn_sound mixedDrow Try.func115 (Eq.mp (eqA115 a0 a1 H K) h)
abbrev S115 (a0 : AK.T (.row (.cons (.row .byte) (.row .byte)))) (a1 : AK.T (.row .byte)) (r : HT [(false, .one (.int .i64)), (false, .one .bool)]) : Prop := PureA Try.prog 115 [(false, .row (.cons (.row .byte) (.row .byte))), (false, .row .byte)] (a0, a1, ()) [(false, .one (.int .i64)), (false, .one .bool)] r
abbrev C115 (a0 : AK.T (.row (.cons (.row .byte) (.row .byte)))) (a1 : AK.T (.row .byte)) (H : HP) (K : HT [(false, .one (.int .i64)), (false, .one .bool)] → HP → Prop) : Prop := callA Try.prog 115 [(false, .row (.cons (.row .byte) (.row .byte))), (false, .row .byte)] (a0, a1, ()) [(false, .one (.int .i64)), (false, .one .bool)] H K
theorem pure115 (a0 : AK.T (.row (.cons (.row .byte) (.row .byte)))) (a1 : AK.T (.row .byte)) {r : HT [(false, .one (.int .i64)), (false, .one .bool)]} (h : ∀ (H : HP) (K : HT [(false, .one (.int .i64)), (false, .one .bool)] → HP → Prop), K r H → A115 a0 a1 H K) : S115 a0 a1 r := fun H K hk => callA115 a0 a1 H K (h H K hk)

/-! garnet/row.Delete -/
def A121 (a0 : AK.T (.row (.cons (.row .byte) (.row .byte)))) (a1 : AK.T (.row .byte)) (H : HP) (K : HT [(false, .row (.cons (.row .byte) (.row .byte))), (false, .one .bool)] → HP → Prop) : Prop :=
  retA Try.prog 133 [(false, .row (.cons (.row .byte) (.row .byte))), (false, .row .byte)] (a0, a1, ()) [(false, .one (.int .i64)), (false, .one .bool)] fun (x1 : Int × Bool × Unit) => callA Try.prog 134 [(false, .row (.cons (.row .byte) (.row .byte)))] (a0, ()) [(false, .own (.cons (.row .byte) (.row .byte)) 109)] H fun (x2 : (List (List UInt8 × List UInt8)) × Unit) (H3 : HP) => JoinA (V := (Bool × (List (List UInt8 × List UInt8)) × Unit) × Unit) (fun (x4 : (Bool × (List (List UInt8 × List UInt8)) × Unit) × Unit) (H5 : HP) => K (x4.1.2.1, x4.1.1, ()) H5) fun B6 => ifB x1.2.1 (callA Try.prog 135 [(false, .own (.cons (.row .byte) (.row .byte)) 109), (false, .one (.int .i64)), (false, .one (.int .i64))] (x2.1, x1.1, IntKind.i64.wrap (x1.1 + 1), ()) [(false, .own (.cons (.row .byte) (.row .byte)) 109)] H3 fun (x7 : (List (List UInt8 × List UInt8)) × Unit) (H8 : HP) => B6 ((x1.2.1, x7.1, ()), ()) H8) (B6 ((x1.2.1, x2.1, ()), ()) H3)
theorem eqA121 (a0 : AK.T (.row (.cons (.row .byte) (.row .byte)))) (a1 : AK.T (.row .byte)) (H : HP) (K : HT [(false, .row (.cons (.row .byte) (.row .byte))), (false, .one .bool)] → HP → Prop) : A121 a0 a1 H K = aFn ⟨Try.prog, sgTDrow, okTDrow, [], akTDrow⟩ ⟨[(0, .row (.cons (.row .byte) (.row .byte))), (1, .row .byte), (4, .own (.cons (.row .byte) (.row .byte)) 109), (8, .own (.cons (.row .byte) (.row .byte)) 109), (10, .row (.cons (.row .byte) (.row .byte))), (11, .row .byte), (15, .row (.cons (.row .byte) (.row .byte))), (16, .own (.cons (.row .byte) (.row .byte)) 109), (18, .own (.cons (.row .byte) (.row .byte)) 109), (22, .own (.cons (.row .byte) (.row .byte)) 109), (23, .own (.cons (.row .byte) (.row .byte)) 109)], []⟩ (.seq .n (.seq .n (.seq .n (.join [(7, .v (.one .bool)), (8, .v (.own (.cons (.row .byte) (.row .byte)) 109))] [] (.seq .n (.cond .n .n)) (.seq .n .n))))) Try.f121 [(false, .row (.cons (.row .byte) (.row .byte))), (false, .row .byte)] (a0, a1, ()) [(false, .row (.cons (.row .byte) (.row .byte))), (false, .one .bool)] H K := by kernel_rfl
theorem callA121 (a0 : AK.T (.row (.cons (.row .byte) (.row .byte)))) (a1 : AK.T (.row .byte)) (H : HP) (K : HT [(false, .row (.cons (.row .byte) (.row .byte))), (false, .one .bool)] → HP → Prop) (h : A121 a0 a1 H K) : callA Try.prog 121 [(false, .row (.cons (.row .byte) (.row .byte))), (false, .row .byte)] (a0, a1, ()) [(false, .row (.cons (.row .byte) (.row .byte))), (false, .one .bool)] H K :=
  aFn_sound mixedDrow Try.func121 (Eq.mp (eqA121 a0 a1 H K) h)
abbrev S121 (a0 : AK.T (.row (.cons (.row .byte) (.row .byte)))) (a1 : AK.T (.row .byte)) (r : HT [(false, .row (.cons (.row .byte) (.row .byte))), (false, .one .bool)]) : Prop := PureA Try.prog 121 [(false, .row (.cons (.row .byte) (.row .byte))), (false, .row .byte)] (a0, a1, ()) [(false, .row (.cons (.row .byte) (.row .byte))), (false, .one .bool)] r
abbrev C121 (a0 : AK.T (.row (.cons (.row .byte) (.row .byte)))) (a1 : AK.T (.row .byte)) (H : HP) (K : HT [(false, .row (.cons (.row .byte) (.row .byte))), (false, .one .bool)] → HP → Prop) : Prop := callA Try.prog 121 [(false, .row (.cons (.row .byte) (.row .byte))), (false, .row .byte)] (a0, a1, ()) [(false, .row (.cons (.row .byte) (.row .byte))), (false, .one .bool)] H K
theorem pure121 (a0 : AK.T (.row (.cons (.row .byte) (.row .byte)))) (a1 : AK.T (.row .byte)) {r : HT [(false, .row (.cons (.row .byte) (.row .byte))), (false, .one .bool)]} (h : ∀ (H : HP) (K : HT [(false, .row (.cons (.row .byte) (.row .byte))), (false, .one .bool)] → HP → Prop), K r H → A121 a0 a1 H K) : S121 a0 a1 r := fun H K hk => callA121 a0 a1 H K (h H K hk)

/-! garnet/garnetref05.Pairs -/
def A38 (a0 : AK.T (.row (.cons (.row .byte) (.row .byte)))) (a1 : AK.T (.row (.cons (.row .byte) (.row .byte)))) (H : HP) (K : HT [(false, .one .bool)] → HP → Prop) : Prop :=
  lenA a0.length fun (n1 : Int) => lenA a1.length fun (n2 : Int) => ifB ((n1 : Int) != n2) (K (false, ()) H) (LoopA (V := ((List (List UInt8 × List UInt8)) × (List (List UInt8 × List UInt8)) × Int × Unit) × Unit) ((a0, a1, 0, ()), ()) H fun (x3 : ((List (List UInt8 × List UInt8)) × (List (List UInt8 × List UInt8)) × Int × Unit) × Unit) (H4 : HP) B5 => lenA x3.1.1.length fun (n6 : Int) => ifB (decide (x3.1.2.2.1 < n6)) (atA x3.1.1 x3.1.2.2.1 fun (l7 : List UInt8 × List UInt8) => atA x3.1.2.1 x3.1.2.2.1 fun (l8 : List UInt8 × List UInt8) => ifB (! ((ByteArray.toList (bys l7.1) : List UInt8) == (ByteArray.toList (bys l8.1)))) (K (false, ()) H4) (atA x3.1.1 x3.1.2.2.1 fun (l9 : List UInt8 × List UInt8) => atA x3.1.2.1 x3.1.2.2.1 fun (l10 : List UInt8 × List UInt8) => ifB (! ((ByteArray.toList (bys l9.2) : List UInt8) == (ByteArray.toList (bys l10.2)))) (K (false, ()) H4) (B5 ((x3.1.1, x3.1.2.1, IntKind.i64.wrap (x3.1.2.2.1 + 1), ()), ()) H4))) (K (true, ()) H4))
theorem eqA38 (a0 : AK.T (.row (.cons (.row .byte) (.row .byte)))) (a1 : AK.T (.row (.cons (.row .byte) (.row .byte)))) (H : HP) (K : HT [(false, .one .bool)] → HP → Prop) : A38 a0 a1 H K = aFn ⟨Try.prog, sgTDrow, okTDrow, [], akTDrow⟩ ⟨[(0, .row (.cons (.row .byte) (.row .byte))), (1, .row (.cons (.row .byte) (.row .byte))), (6, .row (.cons (.row .byte) (.row .byte))), (8, .row (.cons (.row .byte) (.row .byte))), (12, .row (.cons (.row .byte) (.row .byte))), (17, .row (.cons (.row .byte) (.row .byte))), (21, .row .byte), (23, .row (.cons (.row .byte) (.row .byte))), (27, .row .byte), (31, .row (.cons (.row .byte) (.row .byte))), (35, .row .byte), (37, .row (.cons (.row .byte) (.row .byte))), (41, .row .byte)], []⟩ (.seq .n (.seq (.seq .n (.cond (.seq .n .n) .n)) (.seq (.seq .n (.blk (.loop [0, 1, 5] [] (.seq (.seq .n (.cond .n .n)) (.seq (.blk (.seq (.ord 0 [⟨0, false, 0, 1, 131072⟩, ⟨0, false, 0, 32, 262144⟩, ⟨3, false, 0, 393216, 524288⟩, ⟨4, false, 0, 524288, 1048576⟩, ⟨8, false, 0, 1048576, 2097152⟩, ⟨16, false, 0, 2097152, 4194304⟩, ⟨0, false, 0, 2, 8388608⟩, ⟨0, false, 0, 32, 16777216⟩, ⟨192, false, 0, 25165824, 33554432⟩, ⟨256, false, 0, 33554432, 67108864⟩, ⟨512, false, 0, 67108864, 134217728⟩, ⟨1024, false, 0, 134217728, 268435456⟩, ⟨2080, false, 0, 272629760, 536870912⟩, ⟨4096, false, 0, 536870912, 1073741824⟩, ⟨8192, false, 0, 1073741825, 2147483648⟩, ⟨8192, false, 0, 1073741856, 4294967296⟩, ⟨57344, false, 0, 7516192768, 8589934592⟩, ⟨73728, false, 0, 9663676416, 17179869184⟩, ⟨139264, false, 0, 18253611008, 34359738368⟩, ⟨270336, false, 0, 35433480192, 68719476736⟩, ⟨8192, false, 0, 1073741826, 137438953472⟩, ⟨8192, false, 0, 1073741856, 274877906944⟩, ⟨3153920, false, 0, 413390602240, 549755813888⟩, ⟨4202496, false, 0, 550829555712, 1099511627776⟩, ⟨8396800, false, 0, 1100585369600, 2199023255552⟩, ⟨16785408, false, 0, 2200096997376, 4398046511104⟩, ⟨34086912, false, 0, 4467839729664, 8796093022208⟩, ⟨67117056, false, 0, 8797166764032, 17592186044416⟩] [⟨0, 0, []⟩, ⟨1, 0, []⟩, ⟨2, 0, []⟩, ⟨3, 0, []⟩, ⟨4, 0, []⟩, ⟨5, 0, []⟩, ⟨6, 0, []⟩, ⟨7, 0, []⟩, ⟨8, 0, []⟩, ⟨9, 0, []⟩, ⟨10, 0, []⟩, ⟨11, 0, []⟩, ⟨12, 0, []⟩, ⟨13, 0, []⟩, ⟨14, 0, []⟩, ⟨15, 0, []⟩, ⟨16, 0, []⟩, ⟨17, 0, []⟩, ⟨18, 0, []⟩, ⟨19, 0, []⟩, ⟨20, 0, []⟩, ⟨21, 0, []⟩, ⟨22, 0, []⟩, ⟨23, 0, []⟩, ⟨24, 0, []⟩, ⟨25, 0, []⟩, ⟨26, 0, []⟩, ⟨27, 0, []⟩]) (.cond (.seq .n .n) .n))) .n))))) (.seq .n .n)))) Try.f38 [(false, .row (.cons (.row .byte) (.row .byte))), (false, .row (.cons (.row .byte) (.row .byte)))] (a0, a1, ()) [(false, .one .bool)] H K := by kernel_rfl
theorem callA38 (a0 : AK.T (.row (.cons (.row .byte) (.row .byte)))) (a1 : AK.T (.row (.cons (.row .byte) (.row .byte)))) (H : HP) (K : HT [(false, .one .bool)] → HP → Prop) (h : A38 a0 a1 H K) : callA Try.prog 38 [(false, .row (.cons (.row .byte) (.row .byte))), (false, .row (.cons (.row .byte) (.row .byte)))] (a0, a1, ()) [(false, .one .bool)] H K :=
  aFn_sound mixedDrow Try.func38 (Eq.mp (eqA38 a0 a1 H K) h)
abbrev S38 (a0 : AK.T (.row (.cons (.row .byte) (.row .byte)))) (a1 : AK.T (.row (.cons (.row .byte) (.row .byte)))) (r : HT [(false, .one .bool)]) : Prop := PureA Try.prog 38 [(false, .row (.cons (.row .byte) (.row .byte))), (false, .row (.cons (.row .byte) (.row .byte)))] (a0, a1, ()) [(false, .one .bool)] r
abbrev C38 (a0 : AK.T (.row (.cons (.row .byte) (.row .byte)))) (a1 : AK.T (.row (.cons (.row .byte) (.row .byte)))) (H : HP) (K : HT [(false, .one .bool)] → HP → Prop) : Prop := callA Try.prog 38 [(false, .row (.cons (.row .byte) (.row .byte))), (false, .row (.cons (.row .byte) (.row .byte)))] (a0, a1, ()) [(false, .one .bool)] H K
theorem pure38 (a0 : AK.T (.row (.cons (.row .byte) (.row .byte)))) (a1 : AK.T (.row (.cons (.row .byte) (.row .byte)))) {r : HT [(false, .one .bool)]} (h : ∀ (H : HP) (K : HT [(false, .one .bool)] → HP → Prop), K r H → A38 a0 a1 H K) : S38 a0 a1 r := fun H K hk => callA38 a0 a1 H K (h H K hk)

/-! garnet/garnetref05.Delete -/
def A93 (a0 : AK.T (.row (.cons (.row .byte) (.row .byte)))) (a1 : AK.T (.row .byte)) (H : HP) (K : HT [(false, .row (.cons (.row .byte) (.row .byte)))] → HP → Prop) : Prop :=
  LoopA (V := ((List (List UInt8 × List UInt8)) × List UInt8 × (List (List UInt8 × List UInt8)) × Int × Unit) × Unit) ((a0, a1, [], 0, ()), ()) H fun (x1 : ((List (List UInt8 × List UInt8)) × List UInt8 × (List (List UInt8 × List UInt8)) × Int × Unit) × Unit) (H2 : HP) B3 => lenA x1.1.1.length fun (n4 : Int) => ifB (decide (x1.1.2.2.2.1 < n4)) (atA x1.1.1 x1.1.2.2.2.1 fun (l5 : List UInt8 × List UInt8) => retA Try.prog 123 [(false, .row .byte), (false, .row .byte)] (l5.1, x1.1.2.1, ()) [(false, .one .bool)] fun (x6 : Bool × Unit) => ifB (! x6.1) (atA x1.1.1 x1.1.2.2.2.1 fun (l7 : List UInt8 × List UInt8) => appA x1.1.2.2.1.length 1 48 (B3 ((x1.1.1, x1.1.2.1, x1.1.2.2.1 ++ [(l7.1, l7.2)], IntKind.i64.wrap (x1.1.2.2.2.1 + 1), ()), ()) H2)) (B3 ((x1.1.1, x1.1.2.1, x1.1.2.2.1, IntKind.i64.wrap (x1.1.2.2.2.1 + 1), ()), ()) H2)) (K (x1.1.2.2.1, ()) H2)
theorem eqA93 (a0 : AK.T (.row (.cons (.row .byte) (.row .byte)))) (a1 : AK.T (.row .byte)) (H : HP) (K : HT [(false, .row (.cons (.row .byte) (.row .byte)))] → HP → Prop) : A93 a0 a1 H K = aFn ⟨Try.prog, sgTDrow, okTDrow, [], akTDrow⟩ ⟨[(0, .row (.cons (.row .byte) (.row .byte))), (1, .row .byte), (4, .own (.cons (.row .byte) (.row .byte)) 109), (5, .own (.cons (.row .byte) (.row .byte)) 109), (9, .row (.cons (.row .byte) (.row .byte))), (14, .row (.cons (.row .byte) (.row .byte))), (18, .row .byte), (19, .row .byte), (23, .own (.cons (.row .byte) (.row .byte)) 109), (24, .row (.cons (.row .byte) (.row .byte))), (28, .row (.cons (.row .byte) (.row .byte))), (29, .own (.cons (.row .byte) (.row .byte)) 109), (30, .own (.cons (.row .byte) (.row .byte)) 109)], []⟩ (.seq .n (.seq .n (.seq (.seq .n (.blk (.loop [0, 1, 5, 6] [] (.seq (.seq .n (.cond .n .n)) (.seq (.blk (.seq .n (.seq .n (.cond .n .n)))) .n))))) (.seq .n .n)))) Try.f93 [(false, .row (.cons (.row .byte) (.row .byte))), (false, .row .byte)] (a0, a1, ()) [(false, .row (.cons (.row .byte) (.row .byte)))] H K := by kernel_rfl
theorem callA93 (a0 : AK.T (.row (.cons (.row .byte) (.row .byte)))) (a1 : AK.T (.row .byte)) (H : HP) (K : HT [(false, .row (.cons (.row .byte) (.row .byte)))] → HP → Prop) (h : A93 a0 a1 H K) : callA Try.prog 93 [(false, .row (.cons (.row .byte) (.row .byte))), (false, .row .byte)] (a0, a1, ()) [(false, .row (.cons (.row .byte) (.row .byte)))] H K :=
  aFn_sound mixedDrow Try.func93 (Eq.mp (eqA93 a0 a1 H K) h)
abbrev S93 (a0 : AK.T (.row (.cons (.row .byte) (.row .byte)))) (a1 : AK.T (.row .byte)) (r : HT [(false, .row (.cons (.row .byte) (.row .byte)))]) : Prop := PureA Try.prog 93 [(false, .row (.cons (.row .byte) (.row .byte))), (false, .row .byte)] (a0, a1, ()) [(false, .row (.cons (.row .byte) (.row .byte)))] r
abbrev C93 (a0 : AK.T (.row (.cons (.row .byte) (.row .byte)))) (a1 : AK.T (.row .byte)) (H : HP) (K : HT [(false, .row (.cons (.row .byte) (.row .byte)))] → HP → Prop) : Prop := callA Try.prog 93 [(false, .row (.cons (.row .byte) (.row .byte))), (false, .row .byte)] (a0, a1, ()) [(false, .row (.cons (.row .byte) (.row .byte)))] H K
theorem pure93 (a0 : AK.T (.row (.cons (.row .byte) (.row .byte)))) (a1 : AK.T (.row .byte)) {r : HT [(false, .row (.cons (.row .byte) (.row .byte)))]} (h : ∀ (H : HP) (K : HT [(false, .row (.cons (.row .byte) (.row .byte)))] → HP → Prop), K r H → A93 a0 a1 H K) : S93 a0 a1 r := fun H K hk => callA93 a0 a1 H K (h H K hk)

/-! garnet/row.Put -/
def A131 (a0 : AK.T (.row (.cons (.row .byte) (.row .byte)))) (a1 : AK.T (.row .byte)) (a2 : AK.T (.row .byte)) (H : HP) (K : HT [(false, .row (.cons (.row .byte) (.row .byte))), (false, .one .bool), (false, .one .any)] → HP → Prop) : Prop :=
  retA Try.prog 88 [(false, .row .byte)] (a1, ()) [(false, .one .bool)] fun (x1 : Bool × Unit) => ifB (! x1.1) (K ([], false, .iface 44 (.int .i64 1), ()) H) (retA Try.prog 87 [(false, .row .byte)] (a2, ()) [(false, .one .bool)] fun (x2 : Bool × Unit) => ifB (! x2.1) (K ([], false, .iface 44 (.int .i64 1), ()) H) (retA Try.prog 133 [(false, .row (.cons (.row .byte) (.row .byte))), (false, .row .byte)] (a0, a1, ()) [(false, .one (.int .i64)), (false, .one .bool)] fun (x3 : Int × Bool × Unit) => callA Try.prog 134 [(false, .row (.cons (.row .byte) (.row .byte)))] (a0, ()) [(false, .own (.cons (.row .byte) (.row .byte)) 109)] H fun (x4 : (List (List UInt8 × List UInt8)) × Unit) (H5 : HP) => ifB x3.2.1 (retA Try.prog 116 [(false, .row .byte), (false, .row .byte)] (a1, a2, ()) [(true, .cons (.row .byte) (.row .byte))] fun (x6 : (List UInt8 × List UInt8) × Unit) => inA' x3.1 x4.1.length fun (i7 : Nat) => elA x4.1 i7 fun (l8 : List UInt8 × List UInt8) => K (List.set x4.1 i7 (x6.1.1, x6.1.2), false, .nilIface, ()) H5) (retA Try.prog 116 [(false, .row .byte), (false, .row .byte)] (a1, a2, ()) [(true, .cons (.row .byte) (.row .byte))] fun (x9 : (List UInt8 × List UInt8) × Unit) => callA Try.prog 141 [(false, .own (.cons (.row .byte) (.row .byte)) 109), (false, .one (.int .i64)), (false, .row (.cons (.row .byte) (.row .byte)))] (x4.1, x3.1, [(x9.1.1, x9.1.2)], ()) [(false, .own (.cons (.row .byte) (.row .byte)) 109)] H5 fun (x10 : (List (List UInt8 × List UInt8)) × Unit) (H11 : HP) => K (x10.1, true, .nilIface, ()) H11)))
theorem eqA131 (a0 : AK.T (.row (.cons (.row .byte) (.row .byte)))) (a1 : AK.T (.row .byte)) (a2 : AK.T (.row .byte)) (H : HP) (K : HT [(false, .row (.cons (.row .byte) (.row .byte))), (false, .one .bool), (false, .one .any)] → HP → Prop) : A131 a0 a1 a2 H K = aFn ⟨Try.prog, sgTDrow, okTDrow, [], akTDrow⟩ ⟨[(0, .row (.cons (.row .byte) (.row .byte))), (1, .row .byte), (2, .row .byte), (6, .own (.cons (.row .byte) (.row .byte)) 109), (11, .own (.cons (.row .byte) (.row .byte)) 109), (12, .row .byte), (16, .row .byte), (22, .row (.cons (.row .byte) (.row .byte))), (23, .row .byte), (27, .row (.cons (.row .byte) (.row .byte))), (28, .own (.cons (.row .byte) (.row .byte)) 109), (30, .own (.cons (.row .byte) (.row .byte)) 109), (32, .row .byte), (33, .row .byte), (36, .own (.cons (.row .byte) (.row .byte)) 109), (37, .own (.cons (.row .byte) (.row .byte)) 109), (39, .row .byte), (40, .row .byte), (42, .row (.cons (.row .byte) (.row .byte))), (43, .own (.cons (.row .byte) (.row .byte)) 109)], []⟩ (.seq .n (.seq (.seq .n (.cond (.seq .n .n) .n)) (.seq .n (.seq .n (.seq (.seq .n (.cond (.seq .n (.seq .n .n)) .n)) (.seq .n .n)))))) Try.f131 [(false, .row (.cons (.row .byte) (.row .byte))), (false, .row .byte), (false, .row .byte)] (a0, a1, a2, ()) [(false, .row (.cons (.row .byte) (.row .byte))), (false, .one .bool), (false, .one .any)] H K := by kernel_rfl
theorem callA131 (a0 : AK.T (.row (.cons (.row .byte) (.row .byte)))) (a1 : AK.T (.row .byte)) (a2 : AK.T (.row .byte)) (H : HP) (K : HT [(false, .row (.cons (.row .byte) (.row .byte))), (false, .one .bool), (false, .one .any)] → HP → Prop) (h : A131 a0 a1 a2 H K) : callA Try.prog 131 [(false, .row (.cons (.row .byte) (.row .byte))), (false, .row .byte), (false, .row .byte)] (a0, a1, a2, ()) [(false, .row (.cons (.row .byte) (.row .byte))), (false, .one .bool), (false, .one .any)] H K :=
  aFn_sound mixedDrow Try.func131 (Eq.mp (eqA131 a0 a1 a2 H K) h)
abbrev S131 (a0 : AK.T (.row (.cons (.row .byte) (.row .byte)))) (a1 : AK.T (.row .byte)) (a2 : AK.T (.row .byte)) (r : HT [(false, .row (.cons (.row .byte) (.row .byte))), (false, .one .bool), (false, .one .any)]) : Prop := PureA Try.prog 131 [(false, .row (.cons (.row .byte) (.row .byte))), (false, .row .byte), (false, .row .byte)] (a0, a1, a2, ()) [(false, .row (.cons (.row .byte) (.row .byte))), (false, .one .bool), (false, .one .any)] r
abbrev C131 (a0 : AK.T (.row (.cons (.row .byte) (.row .byte)))) (a1 : AK.T (.row .byte)) (a2 : AK.T (.row .byte)) (H : HP) (K : HT [(false, .row (.cons (.row .byte) (.row .byte))), (false, .one .bool), (false, .one .any)] → HP → Prop) : Prop := callA Try.prog 131 [(false, .row (.cons (.row .byte) (.row .byte))), (false, .row .byte), (false, .row .byte)] (a0, a1, a2, ()) [(false, .row (.cons (.row .byte) (.row .byte))), (false, .one .bool), (false, .one .any)] H K
theorem pure131 (a0 : AK.T (.row (.cons (.row .byte) (.row .byte)))) (a1 : AK.T (.row .byte)) (a2 : AK.T (.row .byte)) {r : HT [(false, .row (.cons (.row .byte) (.row .byte))), (false, .one .bool), (false, .one .any)]} (h : ∀ (H : HP) (K : HT [(false, .row (.cons (.row .byte) (.row .byte))), (false, .one .bool), (false, .one .any)] → HP → Prop), K r H → A131 a0 a1 a2 H K) : S131 a0 a1 a2 r := fun H K hk => callA131 a0 a1 a2 H K (h H K hk)

/-! garnet/garnetref05.May -/
def A83 (a0 : AK.T (.row .byte)) (H : HP) (K : HT [(false, .one .bool)] → HP → Prop) : Prop :=
  lenA a0.length fun (n1 : Int) => ifB (decide (n1 > 0)) (lenA a0.length fun (n2 : Int) => K (decide (n2 ≤ 16), ()) H) (K (false, ()) H)
theorem eqA83 (a0 : AK.T (.row .byte)) (H : HP) (K : HT [(false, .one .bool)] → HP → Prop) : A83 a0 H K = aFn ⟨Try.prog, sgTDrow, okTDrow, [], akTDrow⟩ ⟨[(0, .row .byte), (3, .row .byte), (7, .row .byte)], []⟩ (.seq .n (.seq .n .n)) Try.f83 [(false, .row .byte)] (a0, ()) [(false, .one .bool)] H K := by kernel_rfl
theorem callA83 (a0 : AK.T (.row .byte)) (H : HP) (K : HT [(false, .one .bool)] → HP → Prop) (h : A83 a0 H K) : callA Try.prog 83 [(false, .row .byte)] (a0, ()) [(false, .one .bool)] H K :=
  aFn_sound mixedDrow Try.func83 (Eq.mp (eqA83 a0 H K) h)
abbrev S83 (a0 : AK.T (.row .byte)) (r : HT [(false, .one .bool)]) : Prop := PureA Try.prog 83 [(false, .row .byte)] (a0, ()) [(false, .one .bool)] r
abbrev C83 (a0 : AK.T (.row .byte)) (H : HP) (K : HT [(false, .one .bool)] → HP → Prop) : Prop := callA Try.prog 83 [(false, .row .byte)] (a0, ()) [(false, .one .bool)] H K
theorem pure83 (a0 : AK.T (.row .byte)) {r : HT [(false, .one .bool)]} (h : ∀ (H : HP) (K : HT [(false, .one .bool)] → HP → Prop), K r H → A83 a0 H K) : S83 a0 r := fun H K hk => callA83 a0 H K (h H K hk)

/-! garnet/garnetref05.Put -/
def A84 (a0 : AK.T (.row (.cons (.row .byte) (.row .byte)))) (a1 : AK.T (.row .byte)) (a2 : AK.T (.row .byte)) (H : HP) (K : HT [(false, .row (.cons (.row .byte) (.row .byte)))] → HP → Prop) : Prop :=
  retA Try.prog 93 [(false, .row (.cons (.row .byte) (.row .byte))), (false, .row .byte)] (a0, a1, ()) [(false, .row (.cons (.row .byte) (.row .byte)))] fun (x1 : (List (List UInt8 × List UInt8)) × Unit) => retA Try.prog 115 [(false, .row (.cons (.row .byte) (.row .byte))), (false, .row .byte)] (x1.1, a1, ()) [(false, .one (.int .i64)), (false, .one .bool)] fun (x2 : Int × Bool × Unit) => slcA x1.1.length 0 x2.1 fun (i3 : Nat) (i4 : Nat) => appA 0 ((sub x1.1 i3 i4).length) 48 (appA (([] ++ (sub x1.1 i3 i4)).length) 1 48 (slcA x1.1.length x2.1 ((x1.1.length : Nat) : Int) fun (i5 : Nat) (i6 : Nat) => appA ((([] ++ (sub x1.1 i3 i4)) ++ [(a1, a2)]).length) ((sub x1.1 i5 i6).length) 48 (K ((([] ++ (sub x1.1 i3 i4)) ++ [(a1, a2)]) ++ (sub x1.1 i5 i6), ()) H)))
theorem eqA84 (a0 : AK.T (.row (.cons (.row .byte) (.row .byte)))) (a1 : AK.T (.row .byte)) (a2 : AK.T (.row .byte)) (H : HP) (K : HT [(false, .row (.cons (.row .byte) (.row .byte)))] → HP → Prop) : A84 a0 a1 a2 H K = aFn ⟨Try.prog, sgTDrow, okTDrow, [20], akTDrow⟩ ⟨[(0, .row (.cons (.row .byte) (.row .byte))), (1, .row .byte), (2, .row .byte), (6, .own (.cons (.row .byte) (.row .byte)) 109), (7, .row (.cons (.row .byte) (.row .byte))), (10, .own (.cons (.row .byte) (.row .byte)) 109), (11, .row (.cons (.row .byte) (.row .byte))), (12, .row .byte), (13, .row (.cons (.row .byte) (.row .byte))), (15, .row (.cons (.row .byte) (.row .byte))), (16, .row .byte), (20, .row (.cons (.row .byte) (.row .byte))), (21, .row (.cons (.row .byte) (.row .byte))), (23, .row (.cons (.row .byte) (.row .byte))), (24, .own (.cons (.row .byte) (.row .byte)) 109), (25, .own (.cons (.row .byte) (.row .byte)) 109), (26, .row .byte), (27, .row .byte), (29, .row (.cons (.row .byte) (.row .byte))), (30, .own (.cons (.row .byte) (.row .byte)) 109), (31, .own (.cons (.row .byte) (.row .byte)) 109), (32, .row (.cons (.row .byte) (.row .byte))), (34, .row (.cons (.row .byte) (.row .byte))), (35, .own (.cons (.row .byte) (.row .byte)) 109)], []⟩ (.seq .n (.seq .n (.seq .n (.seq .n (.seq .n (.seq .n .n)))))) Try.f84 [(false, .row (.cons (.row .byte) (.row .byte))), (false, .row .byte), (false, .row .byte)] (a0, a1, a2, ()) [(false, .row (.cons (.row .byte) (.row .byte)))] H K := by kernel_rfl
theorem callA84 (a0 : AK.T (.row (.cons (.row .byte) (.row .byte)))) (a1 : AK.T (.row .byte)) (a2 : AK.T (.row .byte)) (H : HP) (K : HT [(false, .row (.cons (.row .byte) (.row .byte)))] → HP → Prop) (h : A84 a0 a1 a2 H K) : callA Try.prog 84 [(false, .row (.cons (.row .byte) (.row .byte))), (false, .row .byte), (false, .row .byte)] (a0, a1, a2, ()) [(false, .row (.cons (.row .byte) (.row .byte)))] H K :=
  aFn_sound mixedDrow Try.func84 (Eq.mp (eqA84 a0 a1 a2 H K) h)
abbrev S84 (a0 : AK.T (.row (.cons (.row .byte) (.row .byte)))) (a1 : AK.T (.row .byte)) (a2 : AK.T (.row .byte)) (r : HT [(false, .row (.cons (.row .byte) (.row .byte)))]) : Prop := PureA Try.prog 84 [(false, .row (.cons (.row .byte) (.row .byte))), (false, .row .byte), (false, .row .byte)] (a0, a1, a2, ()) [(false, .row (.cons (.row .byte) (.row .byte)))] r
abbrev C84 (a0 : AK.T (.row (.cons (.row .byte) (.row .byte)))) (a1 : AK.T (.row .byte)) (a2 : AK.T (.row .byte)) (H : HP) (K : HT [(false, .row (.cons (.row .byte) (.row .byte)))] → HP → Prop) : Prop := callA Try.prog 84 [(false, .row (.cons (.row .byte) (.row .byte))), (false, .row .byte), (false, .row .byte)] (a0, a1, a2, ()) [(false, .row (.cons (.row .byte) (.row .byte)))] H K
theorem pure84 (a0 : AK.T (.row (.cons (.row .byte) (.row .byte)))) (a1 : AK.T (.row .byte)) (a2 : AK.T (.row .byte)) {r : HT [(false, .row (.cons (.row .byte) (.row .byte)))]} (h : ∀ (H : HP) (K : HT [(false, .row (.cons (.row .byte) (.row .byte)))] → HP → Prop), K r H → A84 a0 a1 a2 H K) : S84 a0 a1 a2 r := fun H K hk => callA84 a0 a1 a2 H K (h H K hk)

/-! garnet/garnetref05.Get -/
def A92 (a0 : AK.T (.row (.cons (.row .byte) (.row .byte)))) (a1 : AK.T (.row .byte)) (H : HP) (K : HT [(false, .row .byte), (false, .one .bool)] → HP → Prop) : Prop :=
  retA Try.prog 115 [(false, .row (.cons (.row .byte) (.row .byte))), (false, .row .byte)] (a0, a1, ()) [(false, .one (.int .i64)), (false, .one .bool)] fun (x1 : Int × Bool × Unit) => ifB (! x1.2.1) (K ([], false, ()) H) (atA a0 x1.1 fun (l2 : List UInt8 × List UInt8) => K (l2.2, true, ()) H)
theorem eqA92 (a0 : AK.T (.row (.cons (.row .byte) (.row .byte)))) (a1 : AK.T (.row .byte)) (H : HP) (K : HT [(false, .row .byte), (false, .one .bool)] → HP → Prop) : A92 a0 a1 H K = aFn ⟨Try.prog, sgTDrow, okTDrow, [], akTDrow⟩ ⟨[(0, .row (.cons (.row .byte) (.row .byte))), (1, .row .byte), (4, .row .byte), (9, .row (.cons (.row .byte) (.row .byte))), (10, .row .byte), (16, .row (.cons (.row .byte) (.row .byte))), (20, .row .byte)], []⟩ (.seq .n (.seq .n (.seq (.seq .n (.cond (.seq .n .n) .n)) (.seq .n .n)))) Try.f92 [(false, .row (.cons (.row .byte) (.row .byte))), (false, .row .byte)] (a0, a1, ()) [(false, .row .byte), (false, .one .bool)] H K := by kernel_rfl
theorem callA92 (a0 : AK.T (.row (.cons (.row .byte) (.row .byte)))) (a1 : AK.T (.row .byte)) (H : HP) (K : HT [(false, .row .byte), (false, .one .bool)] → HP → Prop) (h : A92 a0 a1 H K) : callA Try.prog 92 [(false, .row (.cons (.row .byte) (.row .byte))), (false, .row .byte)] (a0, a1, ()) [(false, .row .byte), (false, .one .bool)] H K :=
  aFn_sound mixedDrow Try.func92 (Eq.mp (eqA92 a0 a1 H K) h)
abbrev S92 (a0 : AK.T (.row (.cons (.row .byte) (.row .byte)))) (a1 : AK.T (.row .byte)) (r : HT [(false, .row .byte), (false, .one .bool)]) : Prop := PureA Try.prog 92 [(false, .row (.cons (.row .byte) (.row .byte))), (false, .row .byte)] (a0, a1, ()) [(false, .row .byte), (false, .one .bool)] r
abbrev C92 (a0 : AK.T (.row (.cons (.row .byte) (.row .byte)))) (a1 : AK.T (.row .byte)) (H : HP) (K : HT [(false, .row .byte), (false, .one .bool)] → HP → Prop) : Prop := callA Try.prog 92 [(false, .row (.cons (.row .byte) (.row .byte))), (false, .row .byte)] (a0, a1, ()) [(false, .row .byte), (false, .one .bool)] H K
theorem pure92 (a0 : AK.T (.row (.cons (.row .byte) (.row .byte)))) (a1 : AK.T (.row .byte)) {r : HT [(false, .row .byte), (false, .one .bool)]} (h : ∀ (H : HP) (K : HT [(false, .row .byte), (false, .one .bool)] → HP → Prop), K r H → A92 a0 a1 H K) : S92 a0 a1 r := fun H K hk => callA92 a0 a1 H K (h H K hk)

/-! garnet/garnetref05.In -/
def A122 (a0 : AK.T (.cons (.row .byte) (.row .byte))) (a1 : AK.T (.row .byte)) (H : HP) (K : HT [(false, .one .bool)] → HP → Prop) : Prop :=
  retA Try.prog 94 [(false, .row .byte), (false, .row .byte)] (a1, a0.1, ()) [(false, .one .bool)] fun (x1 : Bool × Unit) => retA Try.prog 94 [(false, .row .byte), (false, .row .byte)] (a1, a0.2, ()) [(false, .one .bool)] fun (x2 : Bool × Unit) => ifB (! x1.1) (lenA a0.2.length fun (n3 : Int) => ifB ((n3 : Int) == 0) (K (true, ()) H) (K (x2.1, ()) H)) (K (false, ()) H)
theorem eqA122 (a0 : AK.T (.cons (.row .byte) (.row .byte))) (a1 : AK.T (.row .byte)) (H : HP) (K : HT [(false, .one .bool)] → HP → Prop) : A122 a0 a1 H K = aFn ⟨Try.prog, sgTDrow, okTDrow, [], akTDrow⟩ ⟨[(1, .row .byte), (7, .row .byte), (9, .row .byte), (11, .row .byte), (13, .row .byte), (19, .row .byte)], []⟩ (.seq .n (.seq .n (.seq .n (.seq .n .n)))) Try.f122 [(true, .cons (.row .byte) (.row .byte)), (false, .row .byte)] (a0, a1, ()) [(false, .one .bool)] H K := by kernel_rfl
theorem callA122 (a0 : AK.T (.cons (.row .byte) (.row .byte))) (a1 : AK.T (.row .byte)) (H : HP) (K : HT [(false, .one .bool)] → HP → Prop) (h : A122 a0 a1 H K) : callA Try.prog 122 [(true, .cons (.row .byte) (.row .byte)), (false, .row .byte)] (a0, a1, ()) [(false, .one .bool)] H K :=
  aFn_sound mixedDrow Try.func122 (Eq.mp (eqA122 a0 a1 H K) h)
abbrev S122 (a0 : AK.T (.cons (.row .byte) (.row .byte))) (a1 : AK.T (.row .byte)) (r : HT [(false, .one .bool)]) : Prop := PureA Try.prog 122 [(true, .cons (.row .byte) (.row .byte)), (false, .row .byte)] (a0, a1, ()) [(false, .one .bool)] r
abbrev C122 (a0 : AK.T (.cons (.row .byte) (.row .byte))) (a1 : AK.T (.row .byte)) (H : HP) (K : HT [(false, .one .bool)] → HP → Prop) : Prop := callA Try.prog 122 [(true, .cons (.row .byte) (.row .byte)), (false, .row .byte)] (a0, a1, ()) [(false, .one .bool)] H K
theorem pure122 (a0 : AK.T (.cons (.row .byte) (.row .byte))) (a1 : AK.T (.row .byte)) {r : HT [(false, .one .bool)]} (h : ∀ (H : HP) (K : HT [(false, .one .bool)] → HP → Prop), K r H → A122 a0 a1 H K) : S122 a0 a1 r := fun H K hk => callA122 a0 a1 H K (h H K hk)

/-! garnet/garnetref05.Sound -/
def A90 (a0 : AK.T (.cons (.row .byte) (.row .byte))) (H : HP) (K : HT [(false, .one .bool)] → HP → Prop) : Prop :=
  retA Try.prog 94 [(false, .row .byte), (false, .row .byte)] (a0.1, a0.2, ()) [(false, .one .bool)] fun (x1 : Bool × Unit) => lenA a0.1.length fun (n2 : Int) => ifB (decide (n2 ≤ 16)) (lenA a0.2.length fun (n3 : Int) => ifB (decide (n3 ≤ 16)) (lenA a0.2.length fun (n4 : Int) => ifB ((n4 : Int) == 0) (K (true, ()) H) (K (x1.1, ()) H)) (K (false, ()) H)) (K (false, ()) H)
theorem eqA90 (a0 : AK.T (.cons (.row .byte) (.row .byte))) (H : HP) (K : HT [(false, .one .bool)] → HP → Prop) : A90 a0 H K = aFn ⟨Try.prog, sgTDrow, okTDrow, [], akTDrow⟩ ⟨[(5, .row .byte), (7, .row .byte), (10, .row .byte), (15, .row .byte), (21, .row .byte)], []⟩ (.seq .n (.seq .n (.seq .n .n))) Try.f90 [(true, .cons (.row .byte) (.row .byte))] (a0, ()) [(false, .one .bool)] H K := by kernel_rfl
theorem callA90 (a0 : AK.T (.cons (.row .byte) (.row .byte))) (H : HP) (K : HT [(false, .one .bool)] → HP → Prop) (h : A90 a0 H K) : callA Try.prog 90 [(true, .cons (.row .byte) (.row .byte))] (a0, ()) [(false, .one .bool)] H K :=
  aFn_sound mixedDrow Try.func90 (Eq.mp (eqA90 a0 H K) h)
abbrev S90 (a0 : AK.T (.cons (.row .byte) (.row .byte))) (r : HT [(false, .one .bool)]) : Prop := PureA Try.prog 90 [(true, .cons (.row .byte) (.row .byte))] (a0, ()) [(false, .one .bool)] r
abbrev C90 (a0 : AK.T (.cons (.row .byte) (.row .byte))) (H : HP) (K : HT [(false, .one .bool)] → HP → Prop) : Prop := callA Try.prog 90 [(true, .cons (.row .byte) (.row .byte))] (a0, ()) [(false, .one .bool)] H K
theorem pure90 (a0 : AK.T (.cons (.row .byte) (.row .byte))) {r : HT [(false, .one .bool)]} (h : ∀ (H : HP) (K : HT [(false, .one .bool)] → HP → Prop), K r H → A90 a0 H K) : S90 a0 r := fun H K hk => callA90 a0 H K (h H K hk)

/-! garnet/key.May -/
def A88 (a0 : AK.T (.row .byte)) (H : HP) (K : HT [(false, .one .bool)] → HP → Prop) : Prop :=
  lenA a0.length fun (n1 : Int) => ifB (decide (n1 ≥ 1)) (lenA a0.length fun (n2 : Int) => K (decide (n2 ≤ 16), ()) H) (K (false, ()) H)
theorem eqA88 (a0 : AK.T (.row .byte)) (H : HP) (K : HT [(false, .one .bool)] → HP → Prop) : A88 a0 H K = aFn ⟨Try.prog, sgTDrow, okTDrow, [], akTDrow⟩ ⟨[(0, .row .byte), (3, .row .byte), (7, .row .byte)], []⟩ (.seq .n (.seq .n .n)) Try.f88 [(false, .row .byte)] (a0, ()) [(false, .one .bool)] H K := by kernel_rfl
theorem callA88 (a0 : AK.T (.row .byte)) (H : HP) (K : HT [(false, .one .bool)] → HP → Prop) (h : A88 a0 H K) : callA Try.prog 88 [(false, .row .byte)] (a0, ()) [(false, .one .bool)] H K :=
  aFn_sound mixedDrow Try.func88 (Eq.mp (eqA88 a0 H K) h)
abbrev S88 (a0 : AK.T (.row .byte)) (r : HT [(false, .one .bool)]) : Prop := PureA Try.prog 88 [(false, .row .byte)] (a0, ()) [(false, .one .bool)] r
abbrev C88 (a0 : AK.T (.row .byte)) (H : HP) (K : HT [(false, .one .bool)] → HP → Prop) : Prop := callA Try.prog 88 [(false, .row .byte)] (a0, ()) [(false, .one .bool)] H K
theorem pure88 (a0 : AK.T (.row .byte)) {r : HT [(false, .one .bool)]} (h : ∀ (H : HP) (K : HT [(false, .one .bool)] → HP → Prop), K r H → A88 a0 H K) : S88 a0 r := fun H K hk => callA88 a0 H K (h H K hk)

/-! garnet/key.Fair -/
def A87 (a0 : AK.T (.row .byte)) (H : HP) (K : HT [(false, .one .bool)] → HP → Prop) : Prop :=
  lenA a0.length fun (n1 : Int) => K (decide (n1 ≤ 32), ()) H
theorem eqA87 (a0 : AK.T (.row .byte)) (H : HP) (K : HT [(false, .one .bool)] → HP → Prop) : A87 a0 H K = aFn ⟨Try.prog, sgTDrow, okTDrow, [], akTDrow⟩ ⟨[(0, .row .byte), (3, .row .byte)], []⟩ (.seq .n (.seq .n .n)) Try.f87 [(false, .row .byte)] (a0, ()) [(false, .one .bool)] H K := by kernel_rfl
theorem callA87 (a0 : AK.T (.row .byte)) (H : HP) (K : HT [(false, .one .bool)] → HP → Prop) (h : A87 a0 H K) : callA Try.prog 87 [(false, .row .byte)] (a0, ()) [(false, .one .bool)] H K :=
  aFn_sound mixedDrow Try.func87 (Eq.mp (eqA87 a0 H K) h)
abbrev S87 (a0 : AK.T (.row .byte)) (r : HT [(false, .one .bool)]) : Prop := PureA Try.prog 87 [(false, .row .byte)] (a0, ()) [(false, .one .bool)] r
abbrev C87 (a0 : AK.T (.row .byte)) (H : HP) (K : HT [(false, .one .bool)] → HP → Prop) : Prop := callA Try.prog 87 [(false, .row .byte)] (a0, ()) [(false, .one .bool)] H K
theorem pure87 (a0 : AK.T (.row .byte)) {r : HT [(false, .one .bool)]} (h : ∀ (H : HP) (K : HT [(false, .one .bool)] → HP → Prop), K r H → A87 a0 H K) : S87 a0 r := fun H K hk => callA87 a0 H K (h H K hk)

/-! garnet/key.Compare -/
def A106 (a0 : AK.T (.row .byte)) (a1 : AK.T (.row .byte)) (H : HP) (K : HT [(false, .one (.int .i64))] → HP → Prop) : Prop :=
  retA Try.prog 125 [(false, .row .byte), (false, .row .byte)] (a0, a1, ()) [(false, .one (.int .i64))] fun (x1 : Int × Unit) => K (x1.1, ()) H
theorem eqA106 (a0 : AK.T (.row .byte)) (a1 : AK.T (.row .byte)) (H : HP) (K : HT [(false, .one (.int .i64))] → HP → Prop) : A106 a0 a1 H K = aFn ⟨Try.prog, sgTDrow, okTDrow, [], akTDrow⟩ ⟨[(0, .row .byte), (1, .row .byte), (5, .row .byte), (6, .row .byte)], []⟩ (.seq .n (.seq .n .n)) Try.f106 [(false, .row .byte), (false, .row .byte)] (a0, a1, ()) [(false, .one (.int .i64))] H K := by kernel_rfl
theorem callA106 (a0 : AK.T (.row .byte)) (a1 : AK.T (.row .byte)) (H : HP) (K : HT [(false, .one (.int .i64))] → HP → Prop) (h : A106 a0 a1 H K) : callA Try.prog 106 [(false, .row .byte), (false, .row .byte)] (a0, a1, ()) [(false, .one (.int .i64))] H K :=
  aFn_sound mixedDrow Try.func106 (Eq.mp (eqA106 a0 a1 H K) h)
abbrev S106 (a0 : AK.T (.row .byte)) (a1 : AK.T (.row .byte)) (r : HT [(false, .one (.int .i64))]) : Prop := PureA Try.prog 106 [(false, .row .byte), (false, .row .byte)] (a0, a1, ()) [(false, .one (.int .i64))] r
abbrev C106 (a0 : AK.T (.row .byte)) (a1 : AK.T (.row .byte)) (H : HP) (K : HT [(false, .one (.int .i64))] → HP → Prop) : Prop := callA Try.prog 106 [(false, .row .byte), (false, .row .byte)] (a0, a1, ()) [(false, .one (.int .i64))] H K
theorem pure106 (a0 : AK.T (.row .byte)) (a1 : AK.T (.row .byte)) {r : HT [(false, .one (.int .i64))]} (h : ∀ (H : HP) (K : HT [(false, .one (.int .i64))] → HP → Prop), K r H → A106 a0 a1 H K) : S106 a0 a1 r := fun H K hk => callA106 a0 a1 H K (h H K hk)

/-! garnet/garnetref05.Less -/
def A94 (a0 : AK.T (.row .byte)) (a1 : AK.T (.row .byte)) (H : HP) (K : HT [(false, .one .bool)] → HP → Prop) : Prop :=
  LoopA (V := (List UInt8 × List UInt8 × Int × Unit) × Unit) ((a0, a1, 0, ()), ()) H fun (x1 : (List UInt8 × List UInt8 × Int × Unit) × Unit) (H2 : HP) B3 => lenA x1.1.1.length fun (n4 : Int) => ifB (decide (x1.1.2.2.1 < n4)) (lenA x1.1.2.1.length fun (n5 : Int) => ifB (decide (x1.1.2.2.1 < n5)) (atA x1.1.1 x1.1.2.2.1 fun (x6 : UInt8) => atA x1.1.2.1 x1.1.2.2.1 fun (x7 : UInt8) => ifB ((((UInt8.toNat x6 : Nat) : Int) : Int) != ((UInt8.toNat x7 : Nat) : Int)) (atA x1.1.1 x1.1.2.2.1 fun (x8 : UInt8) => atA x1.1.2.1 x1.1.2.2.1 fun (x9 : UInt8) => K (decide (((UInt8.toNat x8 : Nat) : Int) < ((UInt8.toNat x9 : Nat) : Int)), ()) H2) (B3 ((x1.1.1, x1.1.2.1, IntKind.i64.wrap (x1.1.2.2.1 + 1), ()), ()) H2)) (lenA x1.1.1.length fun (n10 : Int) => lenA x1.1.2.1.length fun (n11 : Int) => K (decide (n10 < n11), ()) H2)) (lenA x1.1.1.length fun (n12 : Int) => lenA x1.1.2.1.length fun (n13 : Int) => K (decide (n12 < n13), ()) H2)
theorem eqA94 (a0 : AK.T (.row .byte)) (a1 : AK.T (.row .byte)) (H : HP) (K : HT [(false, .one .bool)] → HP → Prop) : A94 a0 a1 H K = aFn ⟨Try.prog, sgTDrow, okTDrow, [], akTDrow⟩ ⟨[(0, .row .byte), (1, .row .byte), (7, .row .byte), (12, .row .byte), (18, .row .byte), (22, .row .byte), (27, .row .byte), (31, .row .byte), (36, .row .byte), (38, .row .byte)], []⟩ (.seq .n (.seq (.seq .n (.blk (.loop [0, 1, 5] [] (.seq (.seq .n (.cond .n .n)) (.seq (.blk (.seq (.ord 0 [⟨0, false, 0, 1, 262144⟩, ⟨0, false, 0, 32, 524288⟩, ⟨3, false, 0, 786432, 1048576⟩, ⟨4, false, 0, 1048576, 2097152⟩, ⟨0, false, 0, 2, 4194304⟩, ⟨0, false, 0, 32, 8388608⟩, ⟨48, false, 0, 12582912, 16777216⟩, ⟨64, false, 0, 16777216, 33554432⟩, ⟨136, false, 0, 35651584, 67108864⟩] [⟨0, 0, []⟩, ⟨1, 0, []⟩, ⟨2, 0, []⟩, ⟨3, 0, []⟩, ⟨4, 0, []⟩, ⟨5, 0, []⟩, ⟨6, 0, []⟩, ⟨7, 0, []⟩, ⟨8, 0, []⟩]) (.cond (.seq (.ord 0 [⟨0, false, 0, 1, 134217728⟩, ⟨0, false, 0, 32, 268435456⟩, ⟨3, false, 0, 402653184, 536870912⟩, ⟨4, false, 0, 536870912, 1073741824⟩, ⟨0, false, 0, 2, 2147483648⟩, ⟨0, false, 0, 32, 4294967296⟩, ⟨48, false, 0, 6442450944, 8589934592⟩, ⟨64, false, 0, 8589934592, 17179869184⟩, ⟨136, false, 0, 18253611008, 34359738368⟩, ⟨511, false, 0, 34359738368, 16⟩] [⟨0, 0, []⟩, ⟨1, 0, []⟩, ⟨2, 0, []⟩, ⟨3, 0, []⟩, ⟨4, 0, []⟩, ⟨5, 0, []⟩, ⟨6, 0, []⟩, ⟨7, 0, []⟩, ⟨8, 0, []⟩, ⟨9, 0, []⟩]) .n) .n))) .n))))) (.seq .n .n))) Try.f94 [(false, .row .byte), (false, .row .byte)] (a0, a1, ()) [(false, .one .bool)] H K := by kernel_rfl
theorem callA94 (a0 : AK.T (.row .byte)) (a1 : AK.T (.row .byte)) (H : HP) (K : HT [(false, .one .bool)] → HP → Prop) (h : A94 a0 a1 H K) : callA Try.prog 94 [(false, .row .byte), (false, .row .byte)] (a0, a1, ()) [(false, .one .bool)] H K :=
  aFn_sound mixedDrow Try.func94 (Eq.mp (eqA94 a0 a1 H K) h)
abbrev S94 (a0 : AK.T (.row .byte)) (a1 : AK.T (.row .byte)) (r : HT [(false, .one .bool)]) : Prop := PureA Try.prog 94 [(false, .row .byte), (false, .row .byte)] (a0, a1, ()) [(false, .one .bool)] r
abbrev C94 (a0 : AK.T (.row .byte)) (a1 : AK.T (.row .byte)) (H : HP) (K : HT [(false, .one .bool)] → HP → Prop) : Prop := callA Try.prog 94 [(false, .row .byte), (false, .row .byte)] (a0, a1, ()) [(false, .one .bool)] H K
theorem pure94 (a0 : AK.T (.row .byte)) (a1 : AK.T (.row .byte)) {r : HT [(false, .one .bool)]} (h : ∀ (H : HP) (K : HT [(false, .one .bool)] → HP → Prop), K r H → A94 a0 a1 H K) : S94 a0 a1 r := fun H K hk => callA94 a0 a1 H K (h H K hk)

/-! slices.BinarySearchFunc[[]garnet/api.Pair,garnet/api.Pair,[]byte] -/
def A142 (a0 : AK.T (.row (.cons (.row .byte) (.row .byte)))) (a1 : AK.T (.row .byte)) (H : HP) (K : HT [(false, .one (.int .i64)), (false, .one .bool)] → HP → Prop) : Prop :=
  lenA a0.length fun (n1 : Int) => LoopA (V := ((List (List UInt8 × List UInt8)) × List UInt8 × Unit × Int × Int × Int × Unit) × Unit) ((a0, a1, (), n1, 0, n1, ()), ()) H fun (x2 : ((List (List UInt8 × List UInt8)) × List UInt8 × Unit × Int × Int × Int × Unit) × Unit) (H3 : HP) B4 => ifB (decide (x2.1.2.2.2.2.1 < x2.1.2.2.2.2.2.1)) ((((0 : Int) ≤ 1)) ∧ (atA x2.1.1 (IntKind.i64.wrap (shrI .u64 (IntKind.u64.wrap (IntKind.i64.wrap (x2.1.2.2.2.2.1 + x2.1.2.2.2.2.2.1))) 1)) fun (l5 : List UInt8 × List UInt8) => callA Try.prog 143 [(true, .cons (.row .byte) (.row .byte)), (false, .row .byte)] ((l5.1, l5.2), x2.1.2.1, ()) [(false, .one (.int .i64))] H3 fun (x6 : Int × Unit) (H7 : HP) => ifB (decide (x6.1 < 0)) (B4 ((x2.1.1, x2.1.2.1, (), x2.1.2.2.2.1, IntKind.i64.wrap ((IntKind.i64.wrap (shrI .u64 (IntKind.u64.wrap (IntKind.i64.wrap (x2.1.2.2.2.2.1 + x2.1.2.2.2.2.2.1))) 1)) + 1), x2.1.2.2.2.2.2.1, ()), ()) H7) (B4 ((x2.1.1, x2.1.2.1, (), x2.1.2.2.2.1, x2.1.2.2.2.2.1, IntKind.i64.wrap (shrI .u64 (IntKind.u64.wrap (IntKind.i64.wrap (x2.1.2.2.2.2.1 + x2.1.2.2.2.2.2.1))) 1), ()), ()) H7))) (ifB (decide (x2.1.2.2.2.2.1 < x2.1.2.2.2.1)) (atA x2.1.1 x2.1.2.2.2.2.1 fun (l8 : List UInt8 × List UInt8) => callA Try.prog 143 [(true, .cons (.row .byte) (.row .byte)), (false, .row .byte)] ((l8.1, l8.2), x2.1.2.1, ()) [(false, .one (.int .i64))] H3 fun (x9 : Int × Unit) (H10 : HP) => K (x2.1.2.2.2.2.1, (x9.1 : Int) == 0, ()) H10) (K (x2.1.2.2.2.2.1, false, ()) H3))
theorem eqA142 (a0 : AK.T (.row (.cons (.row .byte) (.row .byte)))) (a1 : AK.T (.row .byte)) (H : HP) (K : HT [(false, .one (.int .i64)), (false, .one .bool)] → HP → Prop) : A142 a0 a1 H K = aFn ⟨Try.prog, sgTDrow, okTDrow, [], akTDrow⟩ ⟨[(0, .row (.cons (.row .byte) (.row .byte))), (1, .row .byte), (12, .row (.cons (.row .byte) (.row .byte))), (25, .row (.cons (.row .byte) (.row .byte))), (29, .row .byte), (41, .row (.cons (.row .byte) (.row .byte))), (45, .row .byte)], []⟩ (.seq .n (.seq .n (.seq .n (.seq (.blk (.loop [0, 1, 2, 8, 9, 10] [] (.seq (.seq .n (.cond .n .n)) (.blk (.seq .n (.seq .n (.cond .n .n))))))) (.seq .n .n))))) Try.f142 [(false, .row (.cons (.row .byte) (.row .byte))), (false, .row .byte), (false, .one .any)] (a0, a1, .func (.func 143) #[] #[], ()) [(false, .one (.int .i64)), (false, .one .bool)] H K := by kernel_rfl
theorem callA142 (a0 : AK.T (.row (.cons (.row .byte) (.row .byte)))) (a1 : AK.T (.row .byte)) (H : HP) (K : HT [(false, .one (.int .i64)), (false, .one .bool)] → HP → Prop) (h : A142 a0 a1 H K) : callA Try.prog 142 [(false, .row (.cons (.row .byte) (.row .byte))), (false, .row .byte), (false, .one .any)] (a0, a1, .func (.func 143) #[] #[], ()) [(false, .one (.int .i64)), (false, .one .bool)] H K :=
  aFn_sound mixedDrow Try.func142 (Eq.mp (eqA142 a0 a1 H K) h)
abbrev S142 (a0 : AK.T (.row (.cons (.row .byte) (.row .byte)))) (a1 : AK.T (.row .byte)) (r : HT [(false, .one (.int .i64)), (false, .one .bool)]) : Prop := PureA Try.prog 142 [(false, .row (.cons (.row .byte) (.row .byte))), (false, .row .byte), (false, .one .any)] (a0, a1, .func (.func 143) #[] #[], ()) [(false, .one (.int .i64)), (false, .one .bool)] r
abbrev C142 (a0 : AK.T (.row (.cons (.row .byte) (.row .byte)))) (a1 : AK.T (.row .byte)) (H : HP) (K : HT [(false, .one (.int .i64)), (false, .one .bool)] → HP → Prop) : Prop := callA Try.prog 142 [(false, .row (.cons (.row .byte) (.row .byte))), (false, .row .byte), (false, .one .any)] (a0, a1, .func (.func 143) #[] #[], ()) [(false, .one (.int .i64)), (false, .one .bool)] H K
theorem pure142 (a0 : AK.T (.row (.cons (.row .byte) (.row .byte)))) (a1 : AK.T (.row .byte)) {r : HT [(false, .one (.int .i64)), (false, .one .bool)]} (h : ∀ (H : HP) (K : HT [(false, .one (.int .i64)), (false, .one .bool)] → HP → Prop), K r H → A142 a0 a1 H K) : S142 a0 a1 r := fun H K hk => callA142 a0 a1 H K (h H K hk)

/-! garnet/row.Find$1 -/
def A143 (a0 : AK.T (.cons (.row .byte) (.row .byte))) (a1 : AK.T (.row .byte)) (H : HP) (K : HT [(false, .one (.int .i64))] → HP → Prop) : Prop :=
  retA Try.prog 106 [(false, .row .byte), (false, .row .byte)] (a0.1, a1, ()) [(false, .one (.int .i64))] fun (x1 : Int × Unit) => K (x1.1, ()) H
theorem eqA143 (a0 : AK.T (.cons (.row .byte) (.row .byte))) (a1 : AK.T (.row .byte)) (H : HP) (K : HT [(false, .one (.int .i64))] → HP → Prop) : A143 a0 a1 H K = aFn ⟨Try.prog, sgTDrow, okTDrow, [], akTDrow⟩ ⟨[(1, .row .byte), (6, .row .byte), (7, .row .byte)], []⟩ (.seq .n (.seq .n .n)) Try.f143 [(true, .cons (.row .byte) (.row .byte)), (false, .row .byte)] (a0, a1, ()) [(false, .one (.int .i64))] H K := by kernel_rfl
theorem callA143 (a0 : AK.T (.cons (.row .byte) (.row .byte))) (a1 : AK.T (.row .byte)) (H : HP) (K : HT [(false, .one (.int .i64))] → HP → Prop) (h : A143 a0 a1 H K) : callA Try.prog 143 [(true, .cons (.row .byte) (.row .byte)), (false, .row .byte)] (a0, a1, ()) [(false, .one (.int .i64))] H K :=
  aFn_sound mixedDrow Try.func143 (Eq.mp (eqA143 a0 a1 H K) h)
abbrev S143 (a0 : AK.T (.cons (.row .byte) (.row .byte))) (a1 : AK.T (.row .byte)) (r : HT [(false, .one (.int .i64))]) : Prop := PureA Try.prog 143 [(true, .cons (.row .byte) (.row .byte)), (false, .row .byte)] (a0, a1, ()) [(false, .one (.int .i64))] r
abbrev C143 (a0 : AK.T (.cons (.row .byte) (.row .byte))) (a1 : AK.T (.row .byte)) (H : HP) (K : HT [(false, .one (.int .i64))] → HP → Prop) : Prop := callA Try.prog 143 [(true, .cons (.row .byte) (.row .byte)), (false, .row .byte)] (a0, a1, ()) [(false, .one (.int .i64))] H K
theorem pure143 (a0 : AK.T (.cons (.row .byte) (.row .byte))) (a1 : AK.T (.row .byte)) {r : HT [(false, .one (.int .i64))]} (h : ∀ (H : HP) (K : HT [(false, .one (.int .i64))] → HP → Prop), K r H → A143 a0 a1 H K) : S143 a0 a1 r := fun H K hk => callA143 a0 a1 H K (h H K hk)

/-! garnet/garnetref05.Same -/
def A123 (a0 : AK.T (.row .byte)) (a1 : AK.T (.row .byte)) (H : HP) (K : HT [(false, .one .bool)] → HP → Prop) : Prop :=
  K ((ByteArray.toList (bys a0) : List UInt8) == (ByteArray.toList (bys a1)), ()) H
theorem eqA123 (a0 : AK.T (.row .byte)) (a1 : AK.T (.row .byte)) (H : HP) (K : HT [(false, .one .bool)] → HP → Prop) : A123 a0 a1 H K = aFn ⟨Try.prog, sgTDrow, okTDrow, [], akTDrow⟩ ⟨[(0, .row .byte), (1, .row .byte), (5, .row .byte), (7, .row .byte)], []⟩ (.seq .n (.seq .n .n)) Try.f123 [(false, .row .byte), (false, .row .byte)] (a0, a1, ()) [(false, .one .bool)] H K := by kernel_rfl
theorem callA123 (a0 : AK.T (.row .byte)) (a1 : AK.T (.row .byte)) (H : HP) (K : HT [(false, .one .bool)] → HP → Prop) (h : A123 a0 a1 H K) : callA Try.prog 123 [(false, .row .byte), (false, .row .byte)] (a0, a1, ()) [(false, .one .bool)] H K :=
  aFn_sound mixedDrow Try.func123 (Eq.mp (eqA123 a0 a1 H K) h)
abbrev S123 (a0 : AK.T (.row .byte)) (a1 : AK.T (.row .byte)) (r : HT [(false, .one .bool)]) : Prop := PureA Try.prog 123 [(false, .row .byte), (false, .row .byte)] (a0, a1, ()) [(false, .one .bool)] r
abbrev C123 (a0 : AK.T (.row .byte)) (a1 : AK.T (.row .byte)) (H : HP) (K : HT [(false, .one .bool)] → HP → Prop) : Prop := callA Try.prog 123 [(false, .row .byte), (false, .row .byte)] (a0, a1, ()) [(false, .one .bool)] H K
theorem pure123 (a0 : AK.T (.row .byte)) (a1 : AK.T (.row .byte)) {r : HT [(false, .one .bool)]} (h : ∀ (H : HP) (K : HT [(false, .one .bool)] → HP → Prop), K r H → A123 a0 a1 H K) : S123 a0 a1 r := fun H K hk => callA123 a0 a1 H K (h H K hk)

/-! garnet/row.copied -/
def A134 (a0 : AK.T (.row (.cons (.row .byte) (.row .byte)))) (H : HP) (K : HT [(false, .own (.cons (.row .byte) (.row .byte)) 109)] → HP → Prop) : Prop :=
  lenA a0.length fun (n1 : Int) => LoopA (V := ((List (List UInt8 × List UInt8)) × (List (List UInt8 × List UInt8)) × Int × Int × Unit) × Unit) (([], a0, n1, 0, ()), ()) H fun (x2 : ((List (List UInt8 × List UInt8)) × (List (List UInt8 × List UInt8)) × Int × Int × Unit) × Unit) (H3 : HP) B4 => ifB (decide (x2.1.2.2.2.1 < x2.1.2.2.1)) (atA x2.1.2.1 x2.1.2.2.2.1 fun (l5 : List UInt8 × List UInt8) => retA Try.prog 116 [(false, .row .byte), (false, .row .byte)] (l5.1, l5.2, ()) [(true, .cons (.row .byte) (.row .byte))] fun (x6 : (List UInt8 × List UInt8) × Unit) => appA x2.1.1.length 1 48 (B4 ((x2.1.1 ++ [(x6.1.1, x6.1.2)], x2.1.2.1, x2.1.2.2.1, IntKind.i64.wrap (x2.1.2.2.2.1 + 1), ()), ()) H3)) (K (x2.1.1, ()) H3)
theorem eqA134 (a0 : AK.T (.row (.cons (.row .byte) (.row .byte)))) (H : HP) (K : HT [(false, .own (.cons (.row .byte) (.row .byte)) 109)] → HP → Prop) : A134 a0 H K = aFn ⟨Try.prog, sgTDrow, okTDrow, [], akTDrow⟩ ⟨[(0, .row (.cons (.row .byte) (.row .byte))), (2, .own (.cons (.row .byte) (.row .byte)) 109), (3, .own (.cons (.row .byte) (.row .byte)) 109), (6, .row (.cons (.row .byte) (.row .byte))), (12, .own (.cons (.row .byte) (.row .byte)) 109), (14, .row .byte), (16, .row .byte), (18, .row (.cons (.row .byte) (.row .byte))), (19, .own (.cons (.row .byte) (.row .byte)) 109), (21, .own (.cons (.row .byte) (.row .byte)) 109)], []⟩ (.seq .n (.seq .n (.seq (.seq .n (.blk (.loop [3, 6, 7, 8] [] (.seq .n (.seq (.cond .n .n) (.seq (.blk (.seq .n .n)) .n)))))) (.seq .n .n)))) Try.f134 [(false, .row (.cons (.row .byte) (.row .byte)))] (a0, ()) [(false, .own (.cons (.row .byte) (.row .byte)) 109)] H K := by kernel_rfl
theorem callA134 (a0 : AK.T (.row (.cons (.row .byte) (.row .byte)))) (H : HP) (K : HT [(false, .own (.cons (.row .byte) (.row .byte)) 109)] → HP → Prop) (h : A134 a0 H K) : callA Try.prog 134 [(false, .row (.cons (.row .byte) (.row .byte)))] (a0, ()) [(false, .own (.cons (.row .byte) (.row .byte)) 109)] H K :=
  aFn_sound mixedDrow Try.func134 (Eq.mp (eqA134 a0 H K) h)
abbrev S134 (a0 : AK.T (.row (.cons (.row .byte) (.row .byte)))) (r : HT [(false, .own (.cons (.row .byte) (.row .byte)) 109)]) : Prop := PureA Try.prog 134 [(false, .row (.cons (.row .byte) (.row .byte)))] (a0, ()) [(false, .own (.cons (.row .byte) (.row .byte)) 109)] r
abbrev C134 (a0 : AK.T (.row (.cons (.row .byte) (.row .byte)))) (H : HP) (K : HT [(false, .own (.cons (.row .byte) (.row .byte)) 109)] → HP → Prop) : Prop := callA Try.prog 134 [(false, .row (.cons (.row .byte) (.row .byte)))] (a0, ()) [(false, .own (.cons (.row .byte) (.row .byte)) 109)] H K
theorem pure134 (a0 : AK.T (.row (.cons (.row .byte) (.row .byte)))) {r : HT [(false, .own (.cons (.row .byte) (.row .byte)) 109)]} (h : ∀ (H : HP) (K : HT [(false, .own (.cons (.row .byte) (.row .byte)) 109)] → HP → Prop), K r H → A134 a0 H K) : S134 a0 r := fun H K hk => callA134 a0 H K (h H K hk)

/-! garnet/row.one -/
def A116 (a0 : AK.T (.row .byte)) (a1 : AK.T (.row .byte)) (H : HP) (K : HT [(true, .cons (.row .byte) (.row .byte))] → HP → Prop) : Prop :=
  retA Try.prog 113 [(false, .row .byte)] (a0, ()) [(false, .row .byte)] fun (l1 : List UInt8 × Unit) => retA Try.prog 113 [(false, .row .byte)] (a1, ()) [(false, .row .byte)] fun (l2 : List UInt8 × Unit) => K ((l1.1, l2.1), ()) H
theorem eqA116 (a0 : AK.T (.row .byte)) (a1 : AK.T (.row .byte)) (H : HP) (K : HT [(true, .cons (.row .byte) (.row .byte))] → HP → Prop) : A116 a0 a1 H K = aFn ⟨Try.prog, sgTDrow, okTDrow, [], akTDrow⟩ ⟨[(0, .row .byte), (1, .row .byte), (5, .row .byte), (6, .row .byte), (7, .row .byte), (8, .row .byte)], []⟩ (.seq .n (.seq .n .n)) Try.f116 [(false, .row .byte), (false, .row .byte)] (a0, a1, ()) [(true, .cons (.row .byte) (.row .byte))] H K := by kernel_rfl
theorem callA116 (a0 : AK.T (.row .byte)) (a1 : AK.T (.row .byte)) (H : HP) (K : HT [(true, .cons (.row .byte) (.row .byte))] → HP → Prop) (h : A116 a0 a1 H K) : callA Try.prog 116 [(false, .row .byte), (false, .row .byte)] (a0, a1, ()) [(true, .cons (.row .byte) (.row .byte))] H K :=
  aFn_sound mixedDrow Try.func116 (Eq.mp (eqA116 a0 a1 H K) h)
abbrev S116 (a0 : AK.T (.row .byte)) (a1 : AK.T (.row .byte)) (r : HT [(true, .cons (.row .byte) (.row .byte))]) : Prop := PureA Try.prog 116 [(false, .row .byte), (false, .row .byte)] (a0, a1, ()) [(true, .cons (.row .byte) (.row .byte))] r
abbrev C116 (a0 : AK.T (.row .byte)) (a1 : AK.T (.row .byte)) (H : HP) (K : HT [(true, .cons (.row .byte) (.row .byte))] → HP → Prop) : Prop := callA Try.prog 116 [(false, .row .byte), (false, .row .byte)] (a0, a1, ()) [(true, .cons (.row .byte) (.row .byte))] H K
theorem pure116 (a0 : AK.T (.row .byte)) (a1 : AK.T (.row .byte)) {r : HT [(true, .cons (.row .byte) (.row .byte))]} (h : ∀ (H : HP) (K : HT [(true, .cons (.row .byte) (.row .byte))] → HP → Prop), K r H → A116 a0 a1 H K) : S116 a0 a1 r := fun H K hk => callA116 a0 a1 H K (h H K hk)

/-! garnet/key.Sound -/
def A89 (a0 : AK.T (.cons (.row .byte) (.row .byte))) (H : HP) (K : HT [(false, .one .bool)] → HP → Prop) : Prop :=
  lenA a0.1.length fun (n1 : Int) => ifB (decide (n1 ≤ 16)) (lenA a0.2.length fun (n2 : Int) => ifB (decide (n2 ≤ 16)) (lenA a0.2.length fun (n3 : Int) => ifB ((n3 : Int) == 0) (K (true, ()) H) (retA Try.prog 106 [(false, .row .byte), (false, .row .byte)] (a0.1, a0.2, ()) [(false, .one (.int .i64))] fun (x4 : Int × Unit) => K (decide (x4.1 < 0), ()) H)) (K (false, ()) H)) (K (false, ()) H)
theorem eqA89 (a0 : AK.T (.cons (.row .byte) (.row .byte))) (H : HP) (K : HT [(false, .one .bool)] → HP → Prop) : A89 a0 H K = aFn ⟨Try.prog, sgTDrow, okTDrow, [], akTDrow⟩ ⟨[(4, .row .byte), (9, .row .byte), (15, .row .byte), (20, .row .byte), (22, .row .byte)], []⟩ (.seq .n (.seq .n .n)) Try.f89 [(true, .cons (.row .byte) (.row .byte))] (a0, ()) [(false, .one .bool)] H K := by kernel_rfl
theorem callA89 (a0 : AK.T (.cons (.row .byte) (.row .byte))) (H : HP) (K : HT [(false, .one .bool)] → HP → Prop) (h : A89 a0 H K) : callA Try.prog 89 [(true, .cons (.row .byte) (.row .byte))] (a0, ()) [(false, .one .bool)] H K :=
  aFn_sound mixedDrow Try.func89 (Eq.mp (eqA89 a0 H K) h)
abbrev S89 (a0 : AK.T (.cons (.row .byte) (.row .byte))) (r : HT [(false, .one .bool)]) : Prop := PureA Try.prog 89 [(true, .cons (.row .byte) (.row .byte))] (a0, ()) [(false, .one .bool)] r
abbrev C89 (a0 : AK.T (.cons (.row .byte) (.row .byte))) (H : HP) (K : HT [(false, .one .bool)] → HP → Prop) : Prop := callA Try.prog 89 [(true, .cons (.row .byte) (.row .byte))] (a0, ()) [(false, .one .bool)] H K
theorem pure89 (a0 : AK.T (.cons (.row .byte) (.row .byte))) {r : HT [(false, .one .bool)]} (h : ∀ (H : HP) (K : HT [(false, .one .bool)] → HP → Prop), K r H → A89 a0 H K) : S89 a0 r := fun H K hk => callA89 a0 H K (h H K hk)

/-! garnet/key.In -/
def A132 (a0 : AK.T (.cons (.row .byte) (.row .byte))) (a1 : AK.T (.row .byte)) (H : HP) (K : HT [(false, .one .bool)] → HP → Prop) : Prop :=
  retA Try.prog 106 [(false, .row .byte), (false, .row .byte)] (a0.1, a1, ()) [(false, .one (.int .i64))] fun (x1 : Int × Unit) => ifB (decide (x1.1 ≤ 0)) (lenA a0.2.length fun (n2 : Int) => ifB ((n2 : Int) == 0) (K (true, ()) H) (retA Try.prog 106 [(false, .row .byte), (false, .row .byte)] (a1, a0.2, ()) [(false, .one (.int .i64))] fun (x3 : Int × Unit) => K (decide (x3.1 < 0), ()) H)) (K (false, ()) H)
theorem eqA132 (a0 : AK.T (.cons (.row .byte) (.row .byte))) (a1 : AK.T (.row .byte)) (H : HP) (K : HT [(false, .one .bool)] → HP → Prop) : A132 a0 a1 H K = aFn ⟨Try.prog, sgTDrow, okTDrow, [], akTDrow⟩ ⟨[(1, .row .byte), (6, .row .byte), (7, .row .byte), (12, .row .byte), (16, .row .byte), (18, .row .byte)], []⟩ (.seq .n (.seq .n .n)) Try.f132 [(true, .cons (.row .byte) (.row .byte)), (false, .row .byte)] (a0, a1, ()) [(false, .one .bool)] H K := by kernel_rfl
theorem callA132 (a0 : AK.T (.cons (.row .byte) (.row .byte))) (a1 : AK.T (.row .byte)) (H : HP) (K : HT [(false, .one .bool)] → HP → Prop) (h : A132 a0 a1 H K) : callA Try.prog 132 [(true, .cons (.row .byte) (.row .byte)), (false, .row .byte)] (a0, a1, ()) [(false, .one .bool)] H K :=
  aFn_sound mixedDrow Try.func132 (Eq.mp (eqA132 a0 a1 H K) h)
abbrev S132 (a0 : AK.T (.cons (.row .byte) (.row .byte))) (a1 : AK.T (.row .byte)) (r : HT [(false, .one .bool)]) : Prop := PureA Try.prog 132 [(true, .cons (.row .byte) (.row .byte)), (false, .row .byte)] (a0, a1, ()) [(false, .one .bool)] r
abbrev C132 (a0 : AK.T (.cons (.row .byte) (.row .byte))) (a1 : AK.T (.row .byte)) (H : HP) (K : HT [(false, .one .bool)] → HP → Prop) : Prop := callA Try.prog 132 [(true, .cons (.row .byte) (.row .byte)), (false, .row .byte)] (a0, a1, ()) [(false, .one .bool)] H K
theorem pure132 (a0 : AK.T (.cons (.row .byte) (.row .byte))) (a1 : AK.T (.row .byte)) {r : HT [(false, .one .bool)]} (h : ∀ (H : HP) (K : HT [(false, .one .bool)] → HP → Prop), K r H → A132 a0 a1 H K) : S132 a0 a1 r := fun H K hk => callA132 a0 a1 H K (h H K hk)
end Go.Proofs.Ytalniaipgdbbcaa
