/- What the law DiskActs answers, and the openers of its arguments. -/
import Derived.Test.YtjipjfionelpkaaOpenE
import Derived.Test.YtjipjfionelpkaaDk29
