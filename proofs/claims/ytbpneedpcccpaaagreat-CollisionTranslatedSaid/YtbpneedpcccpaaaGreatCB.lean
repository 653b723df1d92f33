/- Part of the proof: the evaluation of the program's code and its tie to the machine, or what functions of the program compute over it. -/
import Derived.Test.YtbpneedpcccpaaaGreatProg
import Derived.Test.YtbpneedpcccpaaaGreatPart1
import Derived.Test.YtbpneedpcccpaaaGreatEng5
import Derived.KernelRfl
set_option maxRecDepth 100000
set_option maxHeartbeats 4000000
set_option linter.unusedSimpArgs false
set_option linter.unusedVariables false
namespace Go.Proofs.YtbpneedpcccpaaaGreat
open Go Go.Zv
theorem I8 : FnIs Tryz.prog 8 A8:=⟨Tryz.f8,Tryz.func8,by kernel_rfl,by kernel_rfl⟩
theorem I10 : FnIs Tryz.prog 10 A10:=⟨Tryz.f10,Tryz.func10,by kernel_rfl,by kernel_rfl⟩
theorem I11 : FnIs Tryz.prog 11 A11:=⟨Tryz.f11,Tryz.func11,by kernel_rfl,by kernel_rfl⟩
theorem I12 : FnIs Tryz.prog 12 A12:=⟨Tryz.f12,Tryz.func12,by kernel_rfl,by kernel_rfl⟩
theorem I13 : FnIs Tryz.prog 13 A13:=⟨Tryz.f13,Tryz.func13,by kernel_rfl,by kernel_rfl⟩
theorem I14 : FnIs Tryz.prog 14 A14:=⟨Tryz.f14,Tryz.func14,by kernel_rfl,by kernel_rfl⟩
theorem I15 : FnIs Tryz.prog 15 A15:=⟨Tryz.f15,Tryz.func15,by kernel_rfl,by kernel_rfl⟩
theorem I16 : FnIs Tryz.prog 16 A16:=⟨Tryz.f16,Tryz.func16,by kernel_rfl,by kernel_rfl⟩
theorem I17 : FnIs Tryz.prog 17 A17:=⟨Tryz.f17,Tryz.func17,by kernel_rfl,by kernel_rfl⟩
theorem I18 : FnIs Tryz.prog 18 A18:=⟨Tryz.f18,Tryz.func18,by kernel_rfl,by kernel_rfl⟩
theorem I19 : FnIs Tryz.prog 19 A19:=⟨Tryz.f19,Tryz.func19,by kernel_rfl,by kernel_rfl⟩
theorem I21 : FnIs Tryz.prog 21 A21:=⟨Tryz.f21,Tryz.func21,by kernel_rfl,by kernel_rfl⟩
theorem I23 : FnIs Tryz.prog 23 A23:=⟨Tryz.f23,Tryz.func23,by kernel_rfl,by kernel_rfl⟩
theorem I26 : FnIs Tryz.prog 26 A26:=⟨Tryz.f26,Tryz.func26,by kernel_rfl,by kernel_rfl⟩
theorem I28 : FnIs Tryz.prog 28 A28:=⟨Tryz.f28,Tryz.func28,by kernel_rfl,by kernel_rfl⟩
theorem I30 : FnIs Tryz.prog 30 A30:=⟨Tryz.f30,Tryz.func30,by kernel_rfl,by kernel_rfl⟩
theorem I31 : FnIs Tryz.prog 31 A31:=⟨Tryz.f31,Tryz.func31,by kernel_rfl,by kernel_rfl⟩
theorem I33 : FnIs Tryz.prog 33 A33:=⟨Tryz.f33,Tryz.func33,by kernel_rfl,by kernel_rfl⟩
theorem I34 : FnIs Tryz.prog 34 A34:=⟨Tryz.f34,Tryz.func34,by kernel_rfl,by kernel_rfl⟩
theorem I35 : FnIs Tryz.prog 35 A35:=⟨Tryz.f35,Tryz.func35,by kernel_rfl,by kernel_rfl⟩
theorem I36 : FnIs Tryz.prog 36 A36:=⟨Tryz.f36,Tryz.func36,by kernel_rfl,by kernel_rfl⟩
theorem I37 : FnIs Tryz.prog 37 A37:=⟨Tryz.f37,Tryz.func37,by kernel_rfl,by kernel_rfl⟩
theorem I38 : FnIs Tryz.prog 38 A38:=⟨Tryz.f38,Tryz.func38,by kernel_rfl,by kernel_rfl⟩
theorem I39 : FnIs Tryz.prog 39 A39:=⟨Tryz.f39,Tryz.func39,by kernel_rfl,by kernel_rfl⟩
theorem I40 : FnIs Tryz.prog 40 A40:=⟨Tryz.f40,Tryz.func40,by kernel_rfl,by kernel_rfl⟩
theorem I41 : FnIs Tryz.prog 41 A41:=⟨Tryz.f41,Tryz.func41,by kernel_rfl,by kernel_rfl⟩
theorem I42 : FnIs Tryz.prog 42 A42:=⟨Tryz.f42,Tryz.func42,by kernel_rfl,by kernel_rfl⟩
theorem I43 : FnIs Tryz.prog 43 A43:=⟨Tryz.f43,Tryz.func43,by kernel_rfl,by kernel_rfl⟩
theorem I44 : FnIs Tryz.prog 44 A44:=⟨Tryz.f44,Tryz.func44,by kernel_rfl,by kernel_rfl⟩
theorem I45 : FnIs Tryz.prog 45 A45:=⟨Tryz.f45,Tryz.func45,by kernel_rfl,by kernel_rfl⟩
theorem I46 : FnIs Tryz.prog 46 A46:=⟨Tryz.f46,Tryz.func46,by kernel_rfl,by kernel_rfl⟩
theorem I47 : FnIs Tryz.prog 47 A47:=⟨Tryz.f47,Tryz.func47,by kernel_rfl,by kernel_rfl⟩
theorem I48 : FnIs Tryz.prog 48 A48:=⟨Tryz.f48,Tryz.func48,by kernel_rfl,by kernel_rfl⟩
theorem I49 : FnIs Tryz.prog 49 A49:=⟨Tryz.f49,Tryz.func49,by kernel_rfl,by kernel_rfl⟩
theorem I50 : FnIs Tryz.prog 50 A50:=⟨Tryz.f50,Tryz.func50,by kernel_rfl,by kernel_rfl⟩
theorem I51 : FnIs Tryz.prog 51 A51:=⟨Tryz.f51,Tryz.func51,by kernel_rfl,by kernel_rfl⟩
theorem I52 : FnIs Tryz.prog 52 A52:=⟨Tryz.f52,Tryz.func52,by kernel_rfl,by kernel_rfl⟩
theorem I53 : FnIs Tryz.prog 53 A53:=⟨Tryz.f53,Tryz.func53,by kernel_rfl,by kernel_rfl⟩
theorem I54 : FnIs Tryz.prog 54 A54:=⟨Tryz.f54,Tryz.func54,by kernel_rfl,by kernel_rfl⟩
theorem I55 : FnIs Tryz.prog 55 A55:=⟨Tryz.f55,Tryz.func55,by kernel_rfl,by kernel_rfl⟩
theorem I57 : FnIs Tryz.prog 57 A57:=⟨Tryz.f57,Tryz.func57,by kernel_rfl,by kernel_rfl⟩
theorem I60 : FnIs Tryz.prog 60 A60:=⟨Tryz.f60,Tryz.func60,by kernel_rfl,by kernel_rfl⟩
theorem I61 : FnIs Tryz.prog 61 A61:=⟨Tryz.f61,Tryz.func61,by kernel_rfl,by kernel_rfl⟩
theorem I62 : FnIs Tryz.prog 62 A62:=⟨Tryz.f62,Tryz.func62,by kernel_rfl,by kernel_rfl⟩
theorem I63 : FnIs Tryz.prog 63 A63:=⟨Tryz.f63,Tryz.func63,by kernel_rfl,by kernel_rfl⟩
theorem I64 : FnIs Tryz.prog 64 A64:=⟨Tryz.f64,Tryz.func64,by kernel_rfl,by kernel_rfl⟩
theorem I65 : FnIs Tryz.prog 65 A65:=⟨Tryz.f65,Tryz.func65,by kernel_rfl,by kernel_rfl⟩
theorem I71 : FnIs Tryz.prog 71 A71:=⟨Tryz.f71,Tryz.func71,by kernel_rfl,by kernel_rfl⟩
theorem I72 : FnIs Tryz.prog 72 A72:=⟨Tryz.f72,Tryz.func72,by kernel_rfl,by kernel_rfl⟩
theorem I73 : FnIs Tryz.prog 73 A73:=⟨Tryz.f73,Tryz.func73,by kernel_rfl,by kernel_rfl⟩
theorem I74 : FnIs Tryz.prog 74 A74:=⟨Tryz.f74,Tryz.func74,by kernel_rfl,by kernel_rfl⟩
theorem I75 : FnIs Tryz.prog 75 A75:=⟨Tryz.f75,Tryz.func75,by kernel_rfl,by kernel_rfl⟩
theorem I76 : FnIs Tryz.prog 76 A76:=⟨Tryz.f76,Tryz.func76,by kernel_rfl,by kernel_rfl⟩
theorem I77 : FnIs Tryz.prog 77 A77:=⟨Tryz.f77,Tryz.func77,by kernel_rfl,by kernel_rfl⟩
theorem I78 : FnIs Tryz.prog 78 A78:=⟨Tryz.f78,Tryz.func78,by kernel_rfl,by kernel_rfl⟩
theorem I79 : FnIs Tryz.prog 79 A79:=⟨Tryz.f79,Tryz.func79,by kernel_rfl,by kernel_rfl⟩
theorem I80 : FnIs Tryz.prog 80 A80:=⟨Tryz.f80,Tryz.func80,by kernel_rfl,by kernel_rfl⟩
theorem I81 : FnIs Tryz.prog 81 A81:=⟨Tryz.f81,Tryz.func81,by kernel_rfl,by kernel_rfl⟩
theorem I82 : FnIs Tryz.prog 82 A82:=⟨Tryz.f82,Tryz.func82,by kernel_rfl,by kernel_rfl⟩
theorem I83 : FnIs Tryz.prog 83 A83:=⟨Tryz.f83,Tryz.func83,by kernel_rfl,by kernel_rfl⟩
theorem I84 : FnIs Tryz.prog 84 A84:=⟨Tryz.f84,Tryz.func84,by kernel_rfl,by kernel_rfl⟩
theorem I85 : FnIs Tryz.prog 85 A85:=⟨Tryz.f85,Tryz.func85,by kernel_rfl,by kernel_rfl⟩
theorem I86 : FnIs Tryz.prog 86 A86:=⟨Tryz.f86,Tryz.func86,by kernel_rfl,by kernel_rfl⟩
theorem I87 : FnIs Tryz.prog 87 A87:=⟨Tryz.f87,Tryz.func87,by kernel_rfl,by kernel_rfl⟩
theorem I88 : FnIs Tryz.prog 88 A88:=⟨Tryz.f88,Tryz.func88,by kernel_rfl,by kernel_rfl⟩
theorem I92 : FnIs Tryz.prog 92 A92:=⟨Tryz.f92,Tryz.func92,by kernel_rfl,by kernel_rfl⟩
theorem I93 : FnIs Tryz.prog 93 A93:=⟨Tryz.f93,Tryz.func93,by kernel_rfl,by kernel_rfl⟩
theorem I94 : FnIs Tryz.prog 94 A94:=⟨Tryz.f94,Tryz.func94,by kernel_rfl,by kernel_rfl⟩
theorem I96 : FnIs Tryz.prog 96 A96:=⟨Tryz.f96,Tryz.func96,by kernel_rfl,by kernel_rfl⟩
theorem I97 : FnIs Tryz.prog 97 A97:=⟨Tryz.f97,Tryz.func97,by kernel_rfl,by kernel_rfl⟩
theorem I98 : FnIs Tryz.prog 98 A98:=⟨Tryz.f98,Tryz.func98,by kernel_rfl,by kernel_rfl⟩
theorem I99 : FnIs Tryz.prog 99 A99:=⟨Tryz.f99,Tryz.func99,by kernel_rfl,by kernel_rfl⟩
theorem I100 : FnIs Tryz.prog 100 A100:=⟨Tryz.f100,Tryz.func100,by kernel_rfl,by kernel_rfl⟩
theorem I101 : FnIs Tryz.prog 101 A101:=⟨Tryz.f101,Tryz.func101,by kernel_rfl,by kernel_rfl⟩
theorem I102 : FnIs Tryz.prog 102 A102:=⟨Tryz.f102,Tryz.func102,by kernel_rfl,by kernel_rfl⟩
theorem I103 : FnIs Tryz.prog 103 A103:=⟨Tryz.f103,Tryz.func103,by kernel_rfl,by kernel_rfl⟩
theorem I104 : FnIs Tryz.prog 104 A104:=⟨Tryz.f104,Tryz.func104,by kernel_rfl,by kernel_rfl⟩
theorem I105 : FnIs Tryz.prog 105 A105:=⟨Tryz.f105,Tryz.func105,by kernel_rfl,by kernel_rfl⟩
theorem I106 : FnIs Tryz.prog 106 A106:=⟨Tryz.f106,Tryz.func106,by kernel_rfl,by kernel_rfl⟩
theorem I107 : FnIs Tryz.prog 107 A107:=⟨Tryz.f107,Tryz.func107,by kernel_rfl,by kernel_rfl⟩
theorem I108 : FnIs Tryz.prog 108 A108:=⟨Tryz.f108,Tryz.func108,by kernel_rfl,by kernel_rfl⟩
theorem I109 : FnIs Tryz.prog 109 A109:=⟨Tryz.f109,Tryz.func109,by kernel_rfl,by kernel_rfl⟩
theorem I110 : FnIs Tryz.prog 110 A110:=⟨Tryz.f110,Tryz.func110,by kernel_rfl,by kernel_rfl⟩
theorem I111 : FnIs Tryz.prog 111 A111:=⟨Tryz.f111,Tryz.func111,by kernel_rfl,by kernel_rfl⟩
theorem I112 : FnIs Tryz.prog 112 A112:=⟨Tryz.f112,Tryz.func112,by kernel_rfl,by kernel_rfl⟩
theorem I113 : FnIs Tryz.prog 113 A113:=⟨Tryz.f113,Tryz.func113,by kernel_rfl,by kernel_rfl⟩
theorem I114 : FnIs Tryz.prog 114 A114:=⟨Tryz.f114,Tryz.func114,by kernel_rfl,by kernel_rfl⟩
theorem I115 : FnIs Tryz.prog 115 A115:=⟨Tryz.f115,Tryz.func115,by kernel_rfl,by kernel_rfl⟩
theorem I116 : FnIs Tryz.prog 116 A116:=⟨Tryz.f116,Tryz.func116,by kernel_rfl,by kernel_rfl⟩
theorem I117 : FnIs Tryz.prog 117 A117:=⟨Tryz.f117,Tryz.func117,by kernel_rfl,by kernel_rfl⟩
theorem I119 : FnIs Tryz.prog 119 A119:=⟨Tryz.f119,Tryz.func119,by kernel_rfl,by kernel_rfl⟩
theorem I120 : FnIs Tryz.prog 120 A120:=⟨Tryz.f120,Tryz.func120,by kernel_rfl,by kernel_rfl⟩
theorem I121 : FnIs Tryz.prog 121 A121:=⟨Tryz.f121,Tryz.func121,by kernel_rfl,by kernel_rfl⟩
theorem I122 : FnIs Tryz.prog 122 A122:=⟨Tryz.f122,Tryz.func122,by kernel_rfl,by kernel_rfl⟩
theorem I123 : FnIs Tryz.prog 123 A123:=⟨Tryz.f123,Tryz.func123,by kernel_rfl,by kernel_rfl⟩
theorem I124 : FnIs Tryz.prog 124 A124:=⟨Tryz.f124,Tryz.func124,by kernel_rfl,by kernel_rfl⟩
theorem I125 : FnIs Tryz.prog 125 A125:=⟨Tryz.f125,Tryz.func125,by kernel_rfl,by kernel_rfl⟩
theorem I126 : FnIs Tryz.prog 126 A126:=⟨Tryz.f126,Tryz.func126,by kernel_rfl,by kernel_rfl⟩
theorem I127 : FnIs Tryz.prog 127 A127:=⟨Tryz.f127,Tryz.func127,by kernel_rfl,by kernel_rfl⟩
theorem I128 : FnIs Tryz.prog 128 A128:=⟨Tryz.f128,Tryz.func128,by kernel_rfl,by kernel_rfl⟩
theorem I129 : FnIs Tryz.prog 129 A129:=⟨Tryz.f129,Tryz.func129,by kernel_rfl,by kernel_rfl⟩
theorem I130 : FnIs Tryz.prog 130 A130:=⟨Tryz.f130,Tryz.func130,by kernel_rfl,by kernel_rfl⟩
theorem I132 : FnIs Tryz.prog 132 A132:=⟨Tryz.f132,Tryz.func132,by kernel_rfl,by kernel_rfl⟩
theorem I133 : FnIs Tryz.prog 133 A133:=⟨Tryz.f133,Tryz.func133,by kernel_rfl,by kernel_rfl⟩
theorem I134 : FnIs Tryz.prog 134 A134:=⟨Tryz.f134,Tryz.func134,by kernel_rfl,by kernel_rfl⟩
theorem I135 : FnIs Tryz.prog 135 A135:=⟨Tryz.f135,Tryz.func135,by kernel_rfl,by kernel_rfl⟩
theorem I136 : FnIs Tryz.prog 136 A136:=⟨Tryz.f136,Tryz.func136,by kernel_rfl,by kernel_rfl⟩
theorem I137 : FnIs Tryz.prog 137 A137:=⟨Tryz.f137,Tryz.func137,by kernel_rfl,by kernel_rfl⟩
theorem I138 : FnIs Tryz.prog 138 A138:=⟨Tryz.f138,Tryz.func138,by kernel_rfl,by kernel_rfl⟩
theorem I139 : FnIs Tryz.prog 139 A139:=⟨Tryz.f139,Tryz.func139,by kernel_rfl,by kernel_rfl⟩
theorem I140 : FnIs Tryz.prog 140 A140:=⟨Tryz.f140,Tryz.func140,by kernel_rfl,by kernel_rfl⟩
theorem E_ok : EOK Tryz.prog E:=by
 intro f fn h
 unfold E at h
 split at h
 ·cases h; exact I8
 ·cases h; exact I10
 ·cases h; exact I11
 ·cases h; exact I12
 ·cases h; exact I13
 ·cases h; exact I14
 ·cases h; exact I15
 ·cases h; exact I16
 ·cases h; exact I17
 ·cases h; exact I18
 ·cases h; exact I19
 ·cases h; exact I21
 ·cases h; exact I23
 ·cases h; exact I26
 ·cases h; exact I28
 ·cases h; exact I30
 ·cases h; exact I31
 ·cases h; exact I33
 ·cases h; exact I34
 ·cases h; exact I35
 ·cases h; exact I36
 ·cases h; exact I37
 ·cases h; exact I38
 ·cases h; exact I39
 ·cases h; exact I40
 ·cases h; exact I41
 ·cases h; exact I42
 ·cases h; exact I43
 ·cases h; exact I44
 ·cases h; exact I45
 ·cases h; exact I46
 ·cases h; exact I47
 ·cases h; exact I48
 ·cases h; exact I49
 ·cases h; exact I50
 ·cases h; exact I51
 ·cases h; exact I52
 ·cases h; exact I53
 ·cases h; exact I54
 ·cases h; exact I55
 ·cases h; exact I57
 ·cases h; exact I60
 ·cases h; exact I61
 ·cases h; exact I62
 ·cases h; exact I63
 ·cases h; exact I64
 ·cases h; exact I65
 ·cases h; exact I71
 ·cases h; exact I72
 ·cases h; exact I73
 ·cases h; exact I74
 ·cases h; exact I75
 ·cases h; exact I76
 ·cases h; exact I77
 ·cases h; exact I78
 ·cases h; exact I79
 ·cases h; exact I80
 ·cases h; exact I81
 ·cases h; exact I82
 ·cases h; exact I83
 ·cases h; exact I84
 ·cases h; exact I85
 ·cases h; exact I86
 ·cases h; exact I87
 ·cases h; exact I88
 ·cases h; exact I92
 ·cases h; exact I93
 ·cases h; exact I94
 ·cases h; exact I96
 ·cases h; exact I97
 ·cases h; exact I98
 ·cases h; exact I99
 ·cases h; exact I100
 ·cases h; exact I101
 ·cases h; exact I102
 ·cases h; exact I103
 ·cases h; exact I104
 ·cases h; exact I105
 ·cases h; exact I106
 ·cases h; exact I107
 ·cases h; exact I108
 ·cases h; exact I109
 ·cases h; exact I110
 ·cases h; exact I111
 ·cases h; exact I112
 ·cases h; exact I113
 ·cases h; exact I114
 ·cases h; exact I115
 ·cases h; exact I116
 ·cases h; exact I117
 ·cases h; exact I119
 ·cases h; exact I120
 ·cases h; exact I121
 ·cases h; exact I122
 ·cases h; exact I123
 ·cases h; exact I124
 ·cases h; exact I125
 ·cases h; exact I126
 ·cases h; exact I127
 ·cases h; exact I128
 ·cases h; exact I129
 ·cases h; exact I130
 ·cases h; exact I132
 ·cases h; exact I133
 ·cases h; exact I134
 ·cases h; exact I135
 ·cases h; exact I136
 ·cases h; exact I137
 ·cases h; exact I138
 ·cases h; exact I139
 ·cases h; exact I140
 ·cases h
theorem mixed : Tryz.prog.follows .mixedOrders = true:=by kernel_rfl
theorem laid : laidOutB Tryz.prog = true:=by kernel_rfl
end Go.Proofs.YtbpneedpcccpaaaGreat
