/- What the law DiskClones answers, and the openers of its arguments. -/
import Derived.Test.YtjipjfionelpkaaOpenE
import Derived.Test.YtjipjfionelpkaaDk31
